/-
  Slices that may be appended to: what was put, copied, written at last.
-/
import Derived.Test.YtbehegpahiefaaaTxt1
import Derived.Test.YtbehegpahiefaaaSym4
import Derived.Shelf.Spec.SlicesGrow
set_option linter.unusedVariables false
set_option linter.unusedSimpArgs false
namespace Go.Proofs.Ytbehegpahiefaaa
set_option maxRecDepth 100000
set_option maxHeartbeats 80000000
open Go.Sym

theorem refFixedF' {n size : Int} (hn : I64 n) (hf : Fits n size) :
    CallOK Try.prog 51 [.int .i64 n, .int .i64 size] [] 0 (Out (.sl .full 0 (u8s (fixed n.toNat size.toNat))) [] 0) := by
  obtain ⟨h1, h2, h3, h4⟩ := hf
  obtain ⟨m, rfl⟩ : ∃ m : Nat, n = m := ⟨n.toNat, by omega⟩
  obtain ⟨k, rfl⟩ : ∃ k : Nat, size = k := ⟨size.toNat, by omega⟩
  exact refFixedF hn (by omega)

theorem refBytes {b : List UInt8} (hl : b.length ≤ 1000000000) :
    CallOK Try.prog 64 [.sl .none 0 (u8s b)] [] 0 (Out (.sl .none 0 (u8s (put b.length ++ b))) [] 0) := by
  have hn : I64 (b.length : Int) := by unfold I64; omega
  have hp := put_len hn
  refine CallOK.none ?_ (ClL.u8s _)
  refine callOK Try.call64 Try.func64 Try.ntmps64 rfl ?_
  conv => arg 4; whnf
  rw [u8s_length]
  refine callT (refPutT hn) (ClL.cons (Cl.int _ _) ClL.nil) (ClL.u8s _) fun s => ?_
  conv => arg 4; whnf
  refine ⟨⟨by first | rfl | trivial, sizeOk 1 rfl ?_⟩, ?_⟩
  · simp [u8s_length]; omega
  conv => arg 4; whnf
  refine ⟨s + 1, ?_, rfl, rfl⟩
  rw [← u8s_append]

theorem cloneT {l : List UInt8} (hl : l.length ≤ 100000000000000) :
    CallOK Try.prog 54 [.sl .none 0 (u8s l)] [] 0 (NewSl 0 (u8s l)) := by
  suffices hs : CallOK Try.prog 54 [.sl .none 0 (u8s l)] [] 0 (fun a h m => Out (.nils) [] 0 a h m ∧ l = [] ∨ Out (.sl (.tok 0 0) 0 (u8s l)) [(0, .tip 0)] 1 a h m) from
    hs.ghost fun a h m ho => by
      rcases ho with ⟨⟨e1, e2, e3⟩, rfl⟩ | ⟨e1, e2, e3⟩ <;> subst e1 <;> subst e2 <;> subst e3
      · exact ⟨_, [(0, .tip 0)], 1, by omega, (Gh.token 0 _ [] 0).trans (Gh.le (fun _ => Le.nilsTok rfl) (fun id o hg => ⟨o, hg, LeO.refl _ _⟩)), 0, rfl, rfl, rfl⟩
      · exact ⟨_, [(0, .tip 0)], 1, by omega, .refl _ _ _ _, 0, rfl, rfl, rfl⟩
  refine callOK Try.call54 Try.func54 Try.ntmps54 rfl ?_
  conv => arg 4; whnf
  intro b hb
  cases b with
  | true =>
    have hb := hb rfl
    refine ⟨fun _ => ?_, fun h => (by cases h)⟩
    conv => arg 4; whnf
    refine .inl ⟨⟨rfl, rfl, rfl⟩, by cases l <;> simp_all [u8s]⟩
  | false =>
    refine ⟨fun h => (by cases h), fun _ => ?_⟩
    conv => arg 4; whnf
    refine ⟨sizeOk 1 rfl ?_, ?_⟩
    · simp [u8s_length]; omega
    conv => arg 4; whnf
    exact .inr ⟨rfl, rfl, rfl⟩

theorem wDoneT {l : List UInt8} {s : Nat} (hl : l.length ≤ 100000000000000) :
    CallOK Try.prog 16 [.ptr 0 0] (WH l s false) 2 (fun a h m => ∃ s2, Out (.tup [.sl (.tok 2 s2) 0 (u8s l), .bl true]) ((2, .tip s2) :: WH l s false) 3 a h m) := by
  refine callOK Try.call16 Try.func16 Try.ntmps16 rfl ?_
  conv => arg 4; whnf
  refine ⟨fun h => (by cases h), fun _ => ?_⟩
  conv => arg 4; whnf
  refine holds_args (args' := [.sl .none 0 (u8s l)]) ⟨Le.none, trivial⟩ (callT (cloneT hl) (ClL.cons (Cl.bs _) ClL.nil) (ClL.u8s _) fun s2 => ?_)
  conv => arg 4; whnf
  exact ⟨s2, rfl, rfl, rfl⟩

/-- A number that fits is written. -/
theorem wFixedT {n size : Int} (hn : I64 n) (hf : Fits n size) {l : List UInt8} {s : Nat} (hl : l.length ≤ 100000000000000) :
    CallOK Try.prog 49 [.ptr 0 0, .int .i64 n, .int .i64 size] (WH l s false) 2 (fun a h m => ∃ s', Out (.ptr 0 0) (WH (l ++ fixed n.toNat size.toNat) s' false) 2 a h m) :=
  (wFixed hn (by unfold I64; have := hf.2.1; have := hf.2.2.1; omega) hl).mono fun a h m ho => by
    rcases ho with ⟨_, s', e⟩ | ⟨hb, _⟩
    · exact ⟨s', e⟩
    · exact absurd hf hb
end Go.Proofs.Ytbehegpahiefaaa

namespace Go.Proofs.Ytbehegpahiefaaa
set_option maxRecDepth 100000
set_option maxHeartbeats 80000000
open Go.Sym

def growRen : Go.Shelf.Ren := ⟨fun n => match n with | 4 => 83 | n => n, fun n => match n with | 22 => 25 | 25 => 5 | n => n, fun n => n⟩

theorem growLays : Lays8.n4 Try.prog growRen where
  mixed := rfl
  f4 := ⟨"slices.Grow[[]byte,byte]", by decide, Try.func83⟩
  t0 := Try.underlying0
  a0 := Try.isAgg0
  z0 := Try.sizeOf0
  v0 := Try.zeroValue0
  t3 := Try.underlying3
  a3 := Try.isAgg3
  z3 := Try.sizeOf3
  v3 := Try.zeroValue3
  t4 := Try.underlying4
  a4 := Try.isAgg4
  z4 := Try.sizeOf4
  v4 := Try.zeroValue4
  t9 := Try.underlying9
  a9 := Try.isAgg9
  z9 := Try.sizeOf9
  v9 := Try.zeroValue9
  t20 := Try.underlying20
  a20 := Try.isAgg20
  z20 := Try.sizeOf20
  v20 := Try.zeroValue20
  t22 := Try.underlying25
  a22 := Try.isAgg25
  z22 := Try.sizeOf25
  v22 := Try.zeroValue25

theorem grow {n : Nat} (hn : n ≤ 100000000000) : CallOK Try.prog 83 [.nils, .int .i64 n] [] 0 (NewSl 0 (u8s [])) := by
  suffices hs : CallOK Try.prog 83 [.nils, .int .i64 n] [] 0 (fun a h m => Out .nils [] 0 a h m ∨ Out (.sl (.tok 0 0) 0 []) [(0, .tip 0)] 1 a h m) from
    hs.ghost fun a h m ho => by
      rcases ho with ⟨e1, e2, e3⟩ | ⟨e1, e2, e3⟩ <;> subst e1 <;> subst e2 <;> subst e3
      · exact ⟨_, [(0, .tip 0)], 1, by omega, (Gh.token 0 _ [] 0).trans (Gh.le (fun _ => Le.nilsTok rfl) (fun id o hg => ⟨o, hg, LeO.refl _ _⟩)), 0, rfl, rfl, rfl⟩
      · exact ⟨_, [(0, .tip 0)], 1, by omega, .refl _ _ _ _, 0, rfl, rfl, rfl⟩
  refine ⟨Try.call83, fun F V w vs i hf hr => ?_⟩
  have hvs : vs.toArray = #[.slice none 0 0, .int .i64 n] := by
    simp only [repL, rep] at hr
    obtain ⟨a, r, rfl, rfl, b, r2, rfl, rfl, rfl⟩ := hr
    rfl
  rw [hvs]
  rcases Nat.eq_zero_or_pos n with rfl | hp
  · refine (Any8.slices_Grow_room growLays none 0 0 0 w (by omega) (by omega) (by omega) (by omega)).mono ?_
    rintro e w' ⟨rfl, rfl⟩
    exact ⟨_, F, V, .nils, [], 0, rfl, .refl .., i, hf, by simp [rep], .inl ⟨rfl, rfl, rfl⟩⟩
  · have := Any8.slices_Grow_grow growLays _ (.int .u8 0) rfl rfl (by decide) none 0 0 n [] w (by omega) (by omega) (by show (0 + n) * 1 ≤ _; omega) (by omega) (by simp) (by simp) (by simp)
    refine this.mono ?_
    rintro e w' ⟨rfl, rfl⟩
    obtain ⟨G, hG⟩ : ∃ G, G = grownCap w (0 + n) 0 (growRen.t 25) := ⟨_, rfl⟩
    have hGn : 0 + n ≤ G := by rw [hG]; exact grownCap_ge w _ _ _
    rw [← hG]
    obtain ⟨all, hall⟩ : ∃ all : Array Value, all = ([] : List Value).toArray ++ Builtin.zeroCells (Value.int .u8 0).cells (0 + n - 0) ++ Builtin.zeroCells (Value.int .u8 0).cells (G - (0 + n)) := ⟨_, rfl⟩
    rw [← hall]
    have hsz : all.size = G := by
      rw [hall]
      simp only [Array.size_append, size_zeroCells, List.size_toArray, List.length_nil]
      show 0 + (0 + n - 0) * 1 + (G - (0 + n)) * 1 = G
      omega
    obtain ⟨i2, s2⟩ := Inv.tokAlloc (t := 0) (st := 0) (m := 0) (h' := [(0, .tip 0)]) (e := growRen.t 25) (all := all) (w' := w.drew.alloc (.cells all (growRen.t 25))) i rfl rfl rfl rfl (Nat.zero_le _) (fun y hy => by rw [(hf 0 (Nat.le_refl _)).2] at hy; cases hy) (fun id' o hg => by
      rw [get_cons'] at hg
      split at hg
      · rename_i h0; cases hg; exact .inl ⟨h0.symm, rfl⟩
      · simp [Sym.get] at hg)
    refine ⟨_, _, _, .sl (.tok 0 0) 0 [], [(0, .tip 0)], 1, rfl, s2, i2, ?_, ?_, .inr ⟨rfl, rfl, rfl⟩⟩
    · exact fresh_setTok (fun id hid => hf id (by omega)) (by omega)
    · simp only [rep]
      refine .inl ⟨w.heap.size, 0, G, [], rfl, by simp [repL], by simp, fun j y hy => by simp [flat] at hy, Nat.zero_le _, ⟨some w.heap.size, 0, 0, all.size⟩, by simp [View.setTok], Nat.le_refl _, fun _ => .inr ⟨rfl, by simp, ?_⟩⟩
      show 0 + G * 1 ≤ all.size
      omega
end Go.Proofs.Ytbehegpahiefaaa

namespace Go.Proofs.Ytbehegpahiefaaa
set_option maxRecDepth 100000
set_option maxHeartbeats 80000000
open Go.Sym

def blsL (ls : List (List UInt8)) : List AV := ls.map fun l => .sl .none 0 (u8s l)
theorem ClL.bls (ls : List (List UInt8)) : ClL (blsL ls) := ClL.map (fun l => Cl.bs l) ls
theorem bls_get {ls : List (List UInt8)} {i : Nat} {x : List UInt8} (h : ls[i]? = some x) : (blsL ls)[((i : Nat) : Int).toNat]? = some (.sl .none 0 (u8s x)) := by
  simp [blsL, h]
theorem bls_length (ls : List (List UInt8)) : (blsL ls).length = ls.length := by simp [blsL]

structure CcJ (ls : List (List UInt8)) where
  i : Nat
  s : Nat
  hi : i ≤ ls.length

structure CcI (ls : List (List UInt8)) where
  i : Nat
  hi : i ≤ ls.length

theorem flat_take {ls : List (List UInt8)} {i : Nat} {x : List UInt8} (h : ls[i]? = some x) : (ls.take (i + 1)).flatten = (ls.take i).flatten ++ x := by
  rw [List.take_add_one, h]; simp
theorem flat_take_le (ls : List (List UInt8)) (i : Nat) : (ls.take i).flatten.length ≤ ls.flatten.length := by
  conv => rhs; rw [← List.take_append_drop i ls, List.flatten_append, List.length_append]
  omega

theorem concat {ls : List (List UInt8)} (hl : ls.length ≤ 1000000) (ht : ls.flatten.length ≤ 1000000000) : CallOK Try.prog 75 [.sl .none 0 (blsL ls)] [] 0 (NewSl 0 (u8s ls.flatten)) := by
  refine callOK Try.call75 Try.func75 Try.ntmps75 rfl ?_
  conv => arg 4; whnf
  have cl : ∀ ρ, ren ρ (.sl .none 0 (blsL ls)) = .sl .none 0 (blsL ls) := Cl.sl (ClL.bls ls)
  rw [bls_length]
  refine tri_loopG (ι := CcI ls) (fun a => ⟨[(11, .int .i64 a.i), (10, .int .i64 ls.length), (9, .sl .none 0 (blsL ls)), (3, .int .i64 (ls.take a.i).flatten.length), (0, .sl .none 0 (blsL ls))], [], 0, 36⟩) (fun a => ls.length - a.i) ⟨0, Nat.zero_le _⟩ (WkG.of rfl rfl ⟨Le.refl _ _, Le.refl _ _, Le.refl _ _, Le.refl _ _, Le.refl _ _, trivial⟩ trivial ⟨rfl, rfl, cl _, rfl, cl _, trivial⟩ trivial) ?_
  intro a
  have hai := a.hi
  conv => arg 4; whnf
  refine ⟨fun h => ?_, fun h => ?_⟩
  · have hi : a.i < ls.length := by simp at h; omega
    obtain ⟨x, hx⟩ : ∃ x, ls[a.i]? = some x := ⟨_, List.getElem?_eq_getElem hi⟩
    have hg := bls_get hx
    have h1 := flat_take hx
    have h2 := flat_take_le ls (a.i + 1)
    have h3 : (ls.take (a.i + 1)).flatten.length = (ls.take a.i).flatten.length + x.length := by rw [h1, List.length_append]
    conv => arg 4; whnf
    refine ⟨_, ⟨by omega, hg⟩, ?_⟩
    (conv => arg 4; whnf); repeat (refine ⟨rfl, ?_⟩; conv => arg 4; whnf)
    have e : IntKind.i64.wrap (((ls.take a.i).flatten.length : Int) + ((u8s x).length : Int)) = (((ls.take (a.i + 1)).flatten.length : Nat) : Int) := by rw [u8s_length, IntKind.wrap_i64, h3]; omega
    rw [e]
    refine ⟨fun h => absurd h (by simp), fun _ => ?_⟩
    conv => arg 4; whnf
    exact ⟨⟨a.i + 1, hi⟩, by show ls.length - (a.i + 1) < ls.length - a.i; omega, WkG.of rfl rfl ⟨Le.of_eq (succ_int (by omega)), Le.refl _ _, Le.refl _ _, Le.refl _ _, Le.refl _ _, trivial⟩ trivial ⟨rfl, rfl, cl _, rfl, cl _, trivial⟩ trivial⟩
  · have hi : a.i = ls.length := by simp at h; omega
    rw [hi, List.take_length]
    conv => arg 4; whnf
    refine fin_exit ?_
    show holds _ _ _ _
    conv => arg 4; whnf
    refine callT (grow (n := ls.flatten.length) (by omega)) (ClL.cons Cl.nils (ClL.cons (Cl.int _ _) ClL.nil)) (ClL.u8s _) fun s => ?_
    (conv => arg 4; whnf); repeat (refine ⟨rfl, ?_⟩; conv => arg 4; whnf)
    rw [bls_length]
    refine tri_loopG (ι := CcJ ls) (fun a => ⟨[(27, .int .i64 a.i), (26, .int .i64 ls.length), (25, .sl .none 0 (blsL ls)), (6, .sl (.tok 0 a.s) 0 (u8s (ls.take a.i).flatten))], [(0, .tip a.s)], 1, 36⟩) (fun a => ls.length - a.i) ⟨0, s, Nat.zero_le _⟩ (WkG.of rfl rfl ⟨Le.refl _ _, Le.refl _ _, Le.refl _ _, Le.refl _ _, trivial⟩ ⟨⟨_, rfl, LeO.refl _ _⟩, trivial⟩ ⟨rfl, rfl, cl _, cut_ok rfl, trivial⟩ ⟨⟨by decide, rfl⟩, trivial⟩) ?_
    intro a
    have hai := a.hi
    conv => arg 4; whnf
    refine ⟨fun h => ?_, fun h => ?_⟩
    · have hi : a.i < ls.length := by simp at h; omega
      obtain ⟨x, hx⟩ : ∃ x, ls[a.i]? = some x := ⟨_, List.getElem?_eq_getElem hi⟩
      have hg := bls_get hx
      have h1 := flat_take hx
      have h2 := flat_take_le ls (a.i + 1)
      have h3 : (ls.take (a.i + 1)).flatten.length = (ls.take a.i).flatten.length + x.length := by rw [h1, List.length_append]
      conv => arg 4; whnf
      refine ⟨_, ⟨by omega, hg⟩, ?_⟩
      (conv => arg 4; whnf); repeat (refine ⟨rfl, ?_⟩; conv => arg 4; whnf)
      refine ⟨⟨rfl, sizeOk 1 rfl ?_⟩, ?_⟩
      · rw [List.length_append, u8s_length, u8s_length]; omega
      (conv => arg 4; whnf); repeat (refine ⟨rfl, ?_⟩; conv => arg 4; whnf)
      exact ⟨⟨a.i + 1, a.s + 1, hi⟩, by show ls.length - (a.i + 1) < ls.length - a.i; omega, WkG.of rfl rfl ⟨Le.of_eq (succ_int (by omega)), Le.refl _ _, Le.refl _ _, Le.of_eq (congrArg (AV.sl _ 0) (by rw [h1, u8s_append])), trivial⟩ ⟨⟨_, rfl, LeO.refl _ _⟩, trivial⟩ ⟨rfl, rfl, cl _, cut_ok rfl, trivial⟩ ⟨⟨by decide, rfl⟩, trivial⟩⟩
    · have hi : a.i = ls.length := by simp at h; omega
      rw [hi, List.take_length]
      conv => arg 4; whnf
      refine fin_exit ?_
      show holds _ _ _ _
      conv => arg 4; whnf
      exact ⟨a.s, rfl, rfl, rfl⟩
end Go.Proofs.Ytbehegpahiefaaa

namespace Go.Proofs.Ytbehegpahiefaaa
set_option maxRecDepth 100000
set_option maxHeartbeats 80000000
open Go.Sym

structure FxX where
  v : Int
  r : List UInt8
  e : Int
structure ByX where
  v : List UInt8
  r : List UInt8
  e : Int
abbrev RO (r : List UInt8) (e : Int) : AObj := .cells [.sl .none 0 (u8s r), .int .i64 e]
theorem ClO.RO (r : List UInt8) (e : Int) : ClO (RO r e) := ClO.cells (ClL.cons (Cl.bs _) (ClL.cons (Cl.int _ _) ClL.nil))

theorem fixedR_suf (b : List UInt8) (e size : Int) : (fixedR b e size).2.1 <:+ b := by
  unfold fixedR
  split
  · exact List.suffix_refl _
  · split
    · exact List.suffix_refl _
    · exact List.drop_suffix _ _
theorem numR_suf (b : List UInt8) (e : Int) : (numR b e).2.1 <:+ b := by
  unfold numR
  split
  · exact List.suffix_refl _
  · split
    · exact List.drop_suffix _ _
    · exact List.suffix_refl _
theorem bytesR_suf (b : List UInt8) (e most : Int) : (bytesR b e most).2.1 <:+ b := by
  unfold bytesR
  split
  · exact List.suffix_refl _
  · split
    · split
      · exact List.suffix_refl _
      · split
        · exact List.suffix_refl _
        · exact (List.drop_suffix _ _).trans (List.drop_suffix _ _)
    · exact List.suffix_refl _
theorem bytesR_len (b : List UInt8) (e most : Int) : (bytesR b e most).1.length ≤ b.length := by
  unfold bytesR
  split
  · simp
  · split
    · split
      · simp
      · split
        · simp
        · simp; omega
    · simp

theorem rFixedE {b : List UInt8} {e size : Int} (hs : I64 size) (hb : b.length ≤ 100000000000000) : CallOK Try.prog 21 [.ptr 0 0, .int .i64 size] (RH b e) 1
    (fun a h m => ∃ x : FxX, (fixedR b e size = (x.v, x.r, x.e) ∧ x.r <:+ b) ∧ Out (.int .i64 x.v) [(0, RO x.r x.e)] 1 a h m) :=
  (rFixed hs hb).mono fun _ _ _ h => ⟨⟨_, _, _⟩, ⟨rfl, fixedR_suf b e size⟩, h⟩
theorem rNumE {b : List UInt8} {e : Int} (hb : b.length ≤ 100000000000000) : CallOK Try.prog 23 [.ptr 0 0] (RH b e) 1
    (fun a h m => ∃ x : FxX, (numR b e = (x.v, x.r, x.e) ∧ x.r <:+ b) ∧ Out (.int .i64 x.v) [(0, RO x.r x.e)] 1 a h m) :=
  (rNum hb).mono fun _ _ _ h => ⟨⟨_, _, _⟩, ⟨rfl, numR_suf b e⟩, h⟩
theorem rBytesE {b : List UInt8} {e most : Int} (hb : b.length ≤ 100000000000000) : CallOK Try.prog 25 [.ptr 0 0, .int .i64 most] (RH b e) 1
    (fun a h m => ∃ x : ByX, (bytesR b e most = (x.v, x.r, x.e) ∧ x.r <:+ b ∧ x.v.length ≤ b.length) ∧ Out (.sl .none 0 (u8s x.v)) [(0, RO x.r x.e)] 1 a h m) :=
  (rBytes hb).mono fun _ _ _ h => ⟨⟨_, _, _⟩, ⟨rfl, bytesR_suf b e most, bytesR_len b e most⟩, h⟩
end Go.Proofs.Ytbehegpahiefaaa

namespace Go.Proofs.Ytbehegpahiefaaa
set_option maxRecDepth 100000
set_option maxHeartbeats 80000000
open Go.Sym

theorem i64_of {x : Int} (h : (Lit.int .i64 x).wf = true) : I64 x := by
  simp only [Lit.wf, Bool.and_eq_true, decide_eq_true_eq] at h
  exact h

theorem items_of {els : List AV} (h : ∀ x ∈ els, ∃ m cs, isElem 4 x cs ∧ Sym.Good Try.prog m 55 cs) : ∃ l : List Item, els = items l ∧ ∀ x ∈ l, x.ok := by
  induction els with
  | nil => exact ⟨[], rfl, by simp⟩
  | cons x els ih =>
    obtain ⟨l, rfl, hl⟩ := ih fun y hy => h y (List.mem_cons_of_mem _ hy)
    obtain ⟨m, cs, he, g⟩ := h x List.mem_cons_self
    obtain ⟨m, g⟩ := Sym.Good.struct Try.underlying55 (by kernel_rfl) g
    obtain ⟨_, _, rfl, g1, _, _, rfl, g2, _, _, rfl, g3, _, _, rfl, g4, rfl⟩ := g
    obtain ⟨x1, rfl, w1⟩ := Sym.Good.int Try.underlying3 g1
    obtain ⟨x2, rfl, w2⟩ := Sym.Good.int Try.underlying3 g2
    obtain ⟨x3, rfl, w3⟩ := Sym.Good.int Try.underlying3 g3
    obtain ⟨x4, rfl, w4⟩ := Sym.Good.str Try.underlying9 g4
    refine ⟨⟨x1, x2, x3, x4⟩ :: l, ?_, ?_⟩
    · simp only [isElem] at he
      rw [if_neg (by decide)] at he
      rw [he]; rfl
    · intro y hy
      rcases List.mem_cons.1 hy with rfl | hy
      · exact ⟨i64_of w1, i64_of w2, i64_of w3⟩
      · exact hl y hy
theorem bytes_of {t : TypeId} {els : List AV} (hu : Try.prog.underlying t = some (.int .u8)) (h : ∀ x ∈ els, ∃ m cs, isElem 0 x cs ∧ Sym.Good Try.prog m t cs) : ∃ l : List UInt8, els = u8s l := by
  induction els with
  | nil => exact ⟨[], rfl⟩
  | cons x els ih =>
    obtain ⟨l, rfl⟩ := ih fun y hy => h y (List.mem_cons_of_mem _ hy)
    obtain ⟨m, cs, he, g⟩ := h x List.mem_cons_self
    obtain ⟨z, rfl, w⟩ := Sym.Good.int hu g
    simp only [Lit.wf, Bool.and_eq_true, decide_eq_true_eq] at w
    have w1 : 0 ≤ z := w.1
    have w2 : z ≤ 255 := w.2
    simp only [isElem, if_true, List.cons.injEq, and_true] at he
    subst he
    refine ⟨UInt8.ofNat z.toNat :: l, ?_⟩
    simp only [u8s, List.map_cons, u8]
    congr 2
    simp
    omega

theorem ints_of {t : TypeId} {els : List AV} (hu : Try.prog.underlying t = some (.int .i64)) (h : ∀ x ∈ els, ∃ m cs, isElem 0 x cs ∧ Sym.Good Try.prog m t cs) : ∃ l : List Int, els = ints l ∧ ∀ x ∈ l, I64 x := by
  induction els with
  | nil => exact ⟨[], rfl, by simp⟩
  | cons x els ih =>
    obtain ⟨l, rfl, hl⟩ := ih fun y hy => h y (List.mem_cons_of_mem _ hy)
    obtain ⟨m, cs, he, g⟩ := h x List.mem_cons_self
    obtain ⟨z, rfl, w⟩ := Sym.Good.int hu g
    simp only [isElem, if_true, List.cons.injEq, and_true] at he
    subst he
    refine ⟨z :: l, rfl, ?_⟩
    intro y hy
    rcases List.mem_cons.1 hy with rfl | hy
    · exact i64_of w
    · exact hl y hy

end Go.Proofs.Ytbehegpahiefaaa

namespace Go.Proofs.Ytbehegpahiefaaa.Pr
set_option maxRecDepth 100000
set_option maxHeartbeats 80000000
open Go.Sym

abbrev bs (l : List UInt8) : AV := .sl .none 0 (u8s l)
def strs (l : List (List UInt8)) : List AV := l.map AV.str
abbrev strsV (l : List (List UInt8)) : AV := .sl .none 0 (strs l)

structure Req where
  kind : Int
  corr : Int
  client : List UInt8
  topic : List UInt8
  part : Int
  off : Int
  time : Int
  max : Int
  group : List UInt8
  member : List UInt8
  gen : Int
  names : List (List UInt8)
  data : List UInt8
deriving DecidableEq

structure Rsp where
  corr : Int
  code : Int
  off : Int
  last : Int
  gen : Int
  member : List UInt8
  leader : List UInt8
  names : List (List UInt8)
  nums : List Int
  data : List UInt8
deriving DecidableEq

def Req.av (r : Req) : AV := .agg [.int .i64 r.kind, .int .i64 r.corr, .str r.client, .str r.topic, .int .i64 r.part, .int .i64 r.off, .int .i64 r.time, .int .i64 r.max, .str r.group, .str r.member, .int .i64 r.gen, strsV r.names, bs r.data]
def Rsp.av (r : Rsp) : AV := .agg [.int .i64 r.corr, .int .i64 r.code, .int .i64 r.off, .int .i64 r.last, .int .i64 r.gen, .str r.member, .str r.leader, strsV r.names, .sl .none 0 (ints r.nums), bs r.data]

def Req.ok (r : Req) : Prop := I64 r.kind ∧ I64 r.corr ∧ I64 r.part ∧ I64 r.off ∧ I64 r.time ∧ I64 r.max ∧ I64 r.gen
def Rsp.ok (r : Rsp) : Prop := I64 r.corr ∧ I64 r.code ∧ I64 r.off ∧ I64 r.last ∧ I64 r.gen ∧ ∀ n ∈ r.nums, I64 n

theorem ClL.strs (l : List (List UInt8)) : ClL (strs l) := ClL.map Cl.str l
theorem Cl.strsV (l : List (List UInt8)) : Cl (strsV l) := Cl.sl (ClL.strs l)
theorem Cl.intsV (l : List Int) : Cl (.sl .none 0 (ints l)) := Cl.sl (fun ρ => ren_ints ρ l)
theorem Cl.req (r : Req) : Cl r.av := by
  show Cl (.agg _)
  refine Cl.agg (ClL.cons (Cl.int _ _) (ClL.cons (Cl.int _ _) (ClL.cons (Cl.str _) (ClL.cons (Cl.str _) (ClL.cons (Cl.int _ _) (ClL.cons (Cl.int _ _) (ClL.cons (Cl.int _ _) (ClL.cons (Cl.int _ _) (ClL.cons (Cl.str _) (ClL.cons (Cl.str _) (ClL.cons (Cl.int _ _) (ClL.cons (Cl.strsV _) (ClL.cons (Cl.bs _) ClL.nil)))))))))))))
theorem Cl.rsp (r : Rsp) : Cl r.av := by
  show Cl (.agg _)
  refine Cl.agg (ClL.cons (Cl.int _ _) (ClL.cons (Cl.int _ _) (ClL.cons (Cl.int _ _) (ClL.cons (Cl.int _ _) (ClL.cons (Cl.int _ _) (ClL.cons (Cl.str _) (ClL.cons (Cl.str _) (ClL.cons (Cl.strsV _) (ClL.cons (Cl.intsV _) (ClL.cons (Cl.bs _) ClL.nil))))))))))

theorem strs_length (l : List (List UInt8)) : (strs l).length = l.length := by simp [strs]
theorem ints_length (l : List Int) : (ints l).length = l.length := by simp [ints]
theorem strs_get {l : List (List UInt8)} {i : Nat} {x : List UInt8} (h : l[i]? = some x) : (strs l)[((i : Nat) : Int).toNat]? = some (.str x) := by simp [strs, h]
theorem ints_get {l : List Int} {i : Nat} {x : Int} (h : l[i]? = some x) : (ints l)[((i : Nat) : Int).toNat]? = some (.int .i64 x) := by simp [ints, h]

/-- Bytes with how many they are ahead. -/
def lenB (l : List UInt8) : List UInt8 := put l.length ++ l
def textsB (l : List (List UInt8)) : List UInt8 := (l.map lenB).flatten
def numsB (l : List Int) : List UInt8 := (l.map put).flatten

def Req.head (r : Req) : List UInt8 := fixed r.kind.toNat 2 ++ fixed r.corr.toNat 4 ++ lenB r.client ++ lenB r.topic ++ put r.part ++ put r.off ++ put r.time ++ put r.max ++ lenB r.group ++ lenB r.member ++ put r.gen ++ put r.names.length
def Req.enc (r : Req) : List UInt8 := r.head ++ textsB r.names ++ lenB r.data
def Rsp.head (r : Rsp) : List UInt8 := fixed r.corr.toNat 4 ++ fixed r.code.toNat 2 ++ put r.off ++ put r.last ++ put r.gen ++ lenB r.member ++ lenB r.leader ++ put r.names.length
def Rsp.enc (r : Rsp) : List UInt8 := r.head ++ textsB r.names ++ put r.nums.length ++ numsB r.nums ++ lenB r.data

def Long (l : List UInt8) : Prop := 100 < l.length
instance (l : List UInt8) : Decidable (Long l) := inferInstanceAs (Decidable (100 < l.length))
def Req.big (r : Req) : Prop := (Long r.client ∨ Long r.topic ∨ Long r.group ∨ Long r.member) ∨ 30 < r.names.length ∨ (∃ s ∈ r.names, Long s) ∨ 65536 < r.data.length
def Rsp.big (r : Rsp) : Prop := (Long r.member ∨ Long r.leader) ∨ 1000 < r.names.length ∨ (∃ s ∈ r.names, Long s) ∨ 1000 < r.nums.length ∨ 131072 < r.data.length

open Classical in
/-- Why a request may not be. -/
noncomputable def Req.chk (r : Req) : Int := if r.kind < 1 ∨ 14 < r.kind then 16 else if r.corr < 0 ∨ 2147483647 < r.corr then 1 else if r.big then 3 else 0
open Classical in
noncomputable def Rsp.chk (r : Rsp) : Int := if r.corr < 0 ∨ 2147483647 < r.corr ∨ r.code < 0 ∨ 65535 < r.code then 1 else if r.big then 3 else 0

theorem put_len' {n : Int} (h : I64 n) : 1 ≤ (put n).length ∧ (put n).length ≤ 10 := ⟨by unfold put; rw [putU]; split <;> simp, put_len h⟩
theorem lenB_len {l : List UInt8} (h : l.length ≤ 1000000000) : (lenB l).length ≤ l.length + 10 := by
  have := put_len (n := l.length) (by unfold I64; omega)
  rw [lenB, List.length_append]; omega

theorem Req.chk_ok {r : Req} (h : r.chk = 0) : 1 ≤ r.kind ∧ r.kind ≤ 14 ∧ 0 ≤ r.corr ∧ r.corr ≤ 2147483647 ∧ ¬ r.big := by
  unfold Req.chk at h
  split at h
  · omega
  · split at h
    · omega
    · split at h
      · omega
      · rename_i h1 h2 h3
        exact ⟨by omega, by omega, by omega, by omega, h3⟩
theorem Rsp.chk_ok {r : Rsp} (h : r.chk = 0) : 0 ≤ r.corr ∧ r.corr ≤ 2147483647 ∧ 0 ≤ r.code ∧ r.code ≤ 65535 ∧ ¬ r.big := by
  unfold Rsp.chk at h
  split at h
  · omega
  · split at h
    · omega
    · rename_i h1 h2
      exact ⟨by omega, by omega, by omega, by omega, h2⟩
theorem textsB_len : ∀ {l : List (List UInt8)}, (∀ s ∈ l, ¬ Long s) → (textsB l).length ≤ 110 * l.length
  | [], _ => by simp [textsB]
  | s :: l, h => by
    have ih := textsB_len (l := l) fun x hx => h x (List.mem_cons_of_mem _ hx)
    have h0 := h s List.mem_cons_self
    unfold Long at h0
    have := lenB_len (l := s) (by omega)
    simp only [textsB, List.map_cons, List.flatten_cons, List.length_append, List.length_cons] at ih ⊢
    omega
theorem numsB_len : ∀ {l : List Int}, (∀ n ∈ l, I64 n) → (numsB l).length ≤ 10 * l.length
  | [], _ => by simp [numsB]
  | s :: l, h => by
    have ih := numsB_len (l := l) fun x hx => h x (List.mem_cons_of_mem _ hx)
    have := put_len (h s List.mem_cons_self)
    simp only [numsB, List.map_cons, List.flatten_cons, List.length_append, List.length_cons] at ih ⊢
    omega
theorem textsB_take {l : List (List UInt8)} {i : Nat} {x : List UInt8} (h : l[i]? = some x) : textsB (l.take (i + 1)) = textsB (l.take i) ++ lenB x := by
  simp [textsB, List.take_add_one, h]
theorem numsB_take {l : List Int} {i : Nat} {x : Int} (h : l[i]? = some x) : numsB (l.take (i + 1)) = numsB (l.take i) ++ put x := by
  simp [numsB, List.take_add_one, h]
end Go.Proofs.Ytbehegpahiefaaa.Pr

namespace Go.Proofs.Ytbehegpahiefaaa.Pr
set_option maxRecDepth 100000
set_option maxHeartbeats 80000000
open Go.Sym

theorem long1 {s : List UInt8} : CallOK Try.prog 82 [.str s] [] 0 (Out (.bool (decide (Long s))) [] 0) := by
  refine callOK Try.call82 Try.func82 Try.ntmps82 rfl ?_
  conv => arg 4; whnf
  have e : decide ((s.length : Int) > 100) = decide (Long s) := by
    rw [decide_eq_decide]
    show (s.length : Int) > 100 ↔ 100 < s.length
    omega
  rw [e]
  exact ⟨rfl, rfl, rfl⟩

theorem succ_i64 {i : Nat} (h : i < 1000000000000000000) : AV.int .i64 (IntKind.i64.wrap ((i : Int) + 1)) = AV.int .i64 ((i + 1 : Nat) : Int) := by
  have : IntKind.i64.wrap ((i : Int) + 1) = ((i + 1 : Nat) : Int) := by rw [IntKind.wrap_i64]; omega
  rw [this]

structure IxI (l : List (List UInt8)) where
  i : Nat
  hi : i ≤ l.length
  h : ∀ s ∈ l.take i, ¬ Long s

theorem indexFunc {l : List (List UInt8)} (hl : l.length ≤ 1000000000000) : CallOK Try.prog 85 [strsV l, .fn 82 []] [] 0 (fun a h m => ∃ n : Int, (0 ≤ n ↔ ∃ s ∈ l, Long s) ∧ Out (.int .i64 n) [] 0 a h m) := by
  refine CallOK.fitE (by decide) ?_
  refine callOK Try.call85 Try.func85 Try.ntmps85 rfl ?_
  conv => arg 4; whnf
  have cf : Cl (.fn 82 []) := fun _ => rfl
  refine tri_loopG (ι := IxI l) (fun a => ⟨[(8, .int .i64 a.i), (7, .int .i64 l.length), (0, strsV l), (1, .fn 82 [])], [], 0, 19⟩) (fun a => l.length - a.i) ⟨0, Nat.zero_le _, by simp⟩ (WkG.of rfl rfl ⟨Le.refl _ _, Le.of_eq (congrArg (fun n : Nat => AV.int .i64 n) (strs_length l)), Le.refl _ _, Le.refl _ _, trivial⟩ trivial ⟨rfl, rfl, Cl.strsV _ _, cf _, trivial⟩ trivial) ?_
  rintro ⟨i, hi, hh⟩
  dsimp only
  conv => arg 4; whnf
  refine ⟨fun h => ?_, fun h => ?_⟩
  · have h : i < l.length := by simp at h; omega
    obtain ⟨x, hx⟩ : ∃ x, l[i]? = some x := ⟨_, List.getElem?_eq_getElem h⟩
    have ht : l.take (i + 1) = l.take i ++ [x] := by rw [List.take_add_one, hx]; rfl
    (conv => arg 4; whnf); repeat (refine ⟨rfl, ?_⟩; conv => arg 4; whnf)
    refine ⟨.str x, ⟨by omega, strs_get hx⟩, ?_⟩
    (conv => arg 4; whnf); repeat (refine ⟨rfl, ?_⟩; conv => arg 4; whnf)
    refine call0 (long1 (s := x)) (by (repeat' (first | with_reducible assumption | exact ClL.nil | exact Cl.int _ _ | exact Cl.bool _ | exact Cl.bl _ | exact Cl.bs _ | exact Cl.str _ | exact Cl.nils | exact Cl.nilp | exact Cl.rec _ | exact Cl.bat _ | exact Cl.recsV _ | exact Cl.strsV _ | exact Cl.intsV _ | exact Cl.req _ | exact Cl.rsp _ | exact Cl.reqA _ | exact Cl.rspA _ | exact Cl.batsV _ | exact Cl.getB _ | exact Cl.encA _ | exact Cl.firstA _ | refine ClL.cons ?_ ?_ | refine Cl.tup ?_ | refine Cl.agg ?_ | exact ClO.RO _ _))) (by (repeat' (first | with_reducible assumption | exact ClL.nil | exact Cl.int _ _ | exact Cl.bool _ | exact Cl.bl _ | exact Cl.bs _ | exact Cl.str _ | exact Cl.nils | exact Cl.nilp | exact Cl.rec _ | exact Cl.bat _ | exact Cl.recsV _ | exact Cl.strsV _ | exact Cl.intsV _ | exact Cl.req _ | exact Cl.rsp _ | exact Cl.reqA _ | exact Cl.rspA _ | exact Cl.batsV _ | exact Cl.getB _ | exact Cl.encA _ | exact Cl.firstA _ | refine ClL.cons ?_ ?_ | refine Cl.tup ?_ | refine Cl.agg ?_ | exact ClO.RO _ _))) ?_
    (conv => arg 4; whnf); repeat (refine ⟨rfl, ?_⟩; conv => arg 4; whnf)
    refine ⟨fun h2 => ?_, fun h2 => ?_⟩
    · have h2 : Long x := by simpa using h2
      (conv => arg 4; whnf); repeat (refine ⟨rfl, ?_⟩; conv => arg 4; whnf)
      exact ⟨i, ⟨fun _ => ⟨x, List.mem_of_getElem? hx, h2⟩, fun _ => by omega⟩, by decide, by (repeat' (first | with_reducible exact Le.refl _ _ | exact Le.bl | exact Le.lb | exact Le.nils | exact Le.nilsFull | exact Le.none | exact LeL.nil _ | refine LeL.cons ?_ ?_ | refine Le.tup ?_ | refine Le.agg ?_ | exact Le.refl _ _ | exact LeL.refl _ _)), trivial, (by (repeat' (first | with_reducible assumption | exact ClL.nil | exact Cl.int _ _ | exact Cl.bool _ | exact Cl.bl _ | exact Cl.bs _ | exact Cl.str _ | exact Cl.nils | exact Cl.nilp | exact Cl.rec _ | exact Cl.bat _ | exact Cl.recsV _ | exact Cl.strsV _ | exact Cl.intsV _ | exact Cl.req _ | exact Cl.rsp _ | exact Cl.reqA _ | exact Cl.rspA _ | exact Cl.batsV _ | exact Cl.getB _ | exact Cl.encA _ | exact Cl.firstA _ | refine ClL.cons ?_ ?_ | refine Cl.tup ?_ | refine Cl.agg ?_ | exact ClO.RO _ _)) : Cl _) _, trivial⟩
    · have h2 : ¬ Long x := by simpa using h2
      (conv => arg 4; whnf); repeat (refine ⟨rfl, ?_⟩; conv => arg 4; whnf)
      refine ⟨⟨i + 1, by omega, fun s hs => ?_⟩, by show l.length - (i + 1) < l.length - i; omega, WkG.of rfl rfl ⟨Le.of_eq (succ_i64 (by omega)), Le.refl _ _, Le.refl _ _, Le.refl _ _, trivial⟩ trivial ⟨rfl, rfl, Cl.strsV _ _, cf _, trivial⟩ trivial⟩
      rw [ht] at hs
      rcases List.mem_append.1 hs with hs | hs
      · exact hh s hs
      · rw [List.mem_singleton] at hs; subst hs; exact h2
  · have hi : i = l.length := by simp at h; omega
    conv => arg 4; whnf
    refine fin_exit ?_
    show holds _ _ _ _
    conv => arg 4; whnf
    refine ⟨-1, ⟨fun h => by omega, fun ⟨s, hs, hl⟩ => ?_⟩, by decide, by (repeat' (first | with_reducible exact Le.refl _ _ | exact Le.bl | exact Le.lb | exact Le.nils | exact Le.nilsFull | exact Le.none | exact LeL.nil _ | refine LeL.cons ?_ ?_ | refine Le.tup ?_ | refine Le.agg ?_ | exact Le.refl _ _ | exact LeL.refl _ _)), trivial, (by (repeat' (first | with_reducible assumption | exact ClL.nil | exact Cl.int _ _ | exact Cl.bool _ | exact Cl.bl _ | exact Cl.bs _ | exact Cl.str _ | exact Cl.nils | exact Cl.nilp | exact Cl.rec _ | exact Cl.bat _ | exact Cl.recsV _ | exact Cl.strsV _ | exact Cl.intsV _ | exact Cl.req _ | exact Cl.rsp _ | exact Cl.reqA _ | exact Cl.rspA _ | exact Cl.batsV _ | exact Cl.getB _ | exact Cl.encA _ | exact Cl.firstA _ | refine ClL.cons ?_ ?_ | refine Cl.tup ?_ | refine Cl.agg ?_ | exact ClO.RO _ _)) : Cl _) _, trivial⟩
    rw [hi, List.take_length] at hh
    exact absurd hl (hh s hs)

theorem containsFunc {l : List (List UInt8)} (hl : l.length ≤ 1000000000000) : CallOK Try.prog 81 [strsV l, .fn 82 []] [] 0 (Out (.bool (decide (∃ s ∈ l, Long s))) [] 0) := by
  refine CallOK.fit (by decide) ?_
  refine callOK Try.call81 Try.func81 Try.ntmps81 rfl ?_
  conv => arg 4; whnf
  refine call0E (indexFunc hl) (ClL.cons (Cl.strsV _) (ClL.cons (fun _ => rfl) ClL.nil)) (fun x => by (repeat' (first | with_reducible assumption | exact ClL.nil | exact Cl.int _ _ | exact Cl.bool _ | exact Cl.bl _ | exact Cl.bs _ | exact Cl.str _ | exact Cl.nils | exact Cl.nilp | exact Cl.rec _ | exact Cl.bat _ | exact Cl.recsV _ | exact Cl.strsV _ | exact Cl.intsV _ | exact Cl.req _ | exact Cl.rsp _ | exact Cl.reqA _ | exact Cl.rspA _ | exact Cl.batsV _ | exact Cl.getB _ | exact Cl.encA _ | exact Cl.firstA _ | refine ClL.cons ?_ ?_ | refine Cl.tup ?_ | refine Cl.agg ?_ | exact ClO.RO _ _))) fun n hn => ?_
  (conv => arg 4; whnf); repeat (refine ⟨rfl, ?_⟩; conv => arg 4; whnf)
  have e : decide (n ≥ 0) = decide (∃ s ∈ l, Long s) := by simp only [decide_eq_decide]; exact hn
  refine ⟨by decide, Le.of_eq (congrArg AV.bool e), trivial, (by (repeat' (first | with_reducible assumption | exact ClL.nil | exact Cl.int _ _ | exact Cl.bool _ | exact Cl.bl _ | exact Cl.bs _ | exact Cl.str _ | exact Cl.nils | exact Cl.nilp | exact Cl.rec _ | exact Cl.bat _ | exact Cl.recsV _ | exact Cl.strsV _ | exact Cl.intsV _ | exact Cl.req _ | exact Cl.rsp _ | exact Cl.reqA _ | exact Cl.rspA _ | exact Cl.batsV _ | exact Cl.getB _ | exact Cl.encA _ | exact Cl.firstA _ | refine ClL.cons ?_ ?_ | refine Cl.tup ?_ | refine Cl.agg ?_ | exact ClO.RO _ _)) : Cl _) _, trivial⟩

theorem long {l : List (List UInt8)} (hl : l.length ≤ 1000000000000) : CallOK Try.prog 61 [strsV l] [] 0 (Out (.bool (decide (∃ s ∈ l, Long s))) [] 0) := by
  refine CallOK.fit (by decide) ?_
  refine callOK Try.call61 Try.func61 Try.ntmps61 rfl ?_
  conv => arg 4; whnf
  refine call0 (containsFunc hl) (ClL.cons (Cl.strsV _) (ClL.cons (fun _ => rfl) ClL.nil)) (by (repeat' (first | with_reducible assumption | exact ClL.nil | exact Cl.int _ _ | exact Cl.bool _ | exact Cl.bl _ | exact Cl.bs _ | exact Cl.str _ | exact Cl.nils | exact Cl.nilp | exact Cl.rec _ | exact Cl.bat _ | exact Cl.recsV _ | exact Cl.strsV _ | exact Cl.intsV _ | exact Cl.req _ | exact Cl.rsp _ | exact Cl.reqA _ | exact Cl.rspA _ | exact Cl.batsV _ | exact Cl.getB _ | exact Cl.encA _ | exact Cl.firstA _ | refine ClL.cons ?_ ?_ | refine Cl.tup ?_ | refine Cl.agg ?_ | exact ClO.RO _ _))) ?_
  (conv => arg 4; whnf); repeat (refine ⟨rfl, ?_⟩; conv => arg 4; whnf)
  exact ⟨by decide, by (repeat' (first | with_reducible exact Le.refl _ _ | exact Le.bl | exact Le.lb | exact Le.nils | exact Le.nilsFull | exact Le.none | exact LeL.nil _ | refine LeL.cons ?_ ?_ | refine Le.tup ?_ | refine Le.agg ?_ | exact Le.refl _ _ | exact LeL.refl _ _)), trivial, (by (repeat' (first | with_reducible assumption | exact ClL.nil | exact Cl.int _ _ | exact Cl.bool _ | exact Cl.bl _ | exact Cl.bs _ | exact Cl.str _ | exact Cl.nils | exact Cl.nilp | exact Cl.rec _ | exact Cl.bat _ | exact Cl.recsV _ | exact Cl.strsV _ | exact Cl.intsV _ | exact Cl.req _ | exact Cl.rsp _ | exact Cl.reqA _ | exact Cl.rspA _ | exact Cl.batsV _ | exact Cl.getB _ | exact Cl.encA _ | exact Cl.firstA _ | refine ClL.cons ?_ ?_ | refine Cl.tup ?_ | refine Cl.agg ?_ | exact ClO.RO _ _)) : Cl _) _, trivial⟩
end Go.Proofs.Ytbehegpahiefaaa.Pr

namespace Go.Proofs.Ytbehegpahiefaaa.Pr
set_option maxRecDepth 100000
set_option maxHeartbeats 80000000
open Go.Sym

theorem fits8 {n : Int} (h : 0 ≤ n) : Fits n 8 := ⟨h, by decide, by decide, fun h => by omega⟩
theorem fits2 {n : Int} (h : 0 ≤ n) (k : n < 65536) : Fits n 2 := ⟨h, by decide, by decide, fun _ => k⟩
theorem fits4 {n : Int} (h : 0 ≤ n) (k : n < 4294967296) : Fits n 4 := ⟨h, by decide, by decide, fun _ => k⟩

noncomputable def Req.out (r : Req) : List UInt8 := if r.chk = 0 then r.enc else []
noncomputable def reqA (r : Req) : AV := .tup [bs r.out, .int .i64 r.chk]
theorem Cl.reqA (r : Req) : Cl (reqA r) := Cl.tup (ClL.cons (Cl.bs _) (ClL.cons (Cl.int _ _) ClL.nil))
theorem Req.out_yes {r : Req} (h : r.chk = 0) : r.out = r.enc := by rw [Req.out, if_pos h]
theorem Req.out_no {r : Req} (h : r.chk ≠ 0) : r.out = [] := by rw [Req.out, if_neg h]

def reqO (r : Req) : AObj := .cells [.int .i64 r.kind, .int .i64 r.corr, .str r.client, .str r.topic, .int .i64 r.part, .int .i64 r.off, .int .i64 r.time, .int .i64 r.max, .str r.group, .str r.member, .int .i64 r.gen, strsV r.names, bs r.data]
theorem ClO.reqO (r : Req) : ClO (reqO r) := by
  refine ClO.cells ?_
  (repeat' (first | with_reducible assumption | exact ClL.nil | exact Cl.int _ _ | exact Cl.bool _ | exact Cl.bl _ | exact Cl.bs _ | exact Cl.str _ | exact Cl.nils | exact Cl.nilp | exact Cl.rec _ | exact Cl.bat _ | exact Cl.recsV _ | exact Cl.strsV _ | exact Cl.intsV _ | exact Cl.req _ | exact Cl.rsp _ | exact Cl.reqA _ | exact Cl.rspA _ | exact Cl.batsV _ | exact Cl.getB _ | exact Cl.encA _ | exact Cl.firstA _ | refine ClL.cons ?_ ?_ | refine Cl.tup ?_ | refine Cl.agg ?_ | exact ClO.RO _ _))
theorem cut_wob {nx s : Nat} (l : List UInt8) : renO (cut 3 nx) (wob 2 s 0 (u8s l) [.bool false]) = wob 2 s 0 (u8s l) [.bool false] := by
  simp only [renO, renL, renL_u8s, ren, renP, cut_lt (show 2 < 3 by decide)]
theorem argsW {nx i j : Nat} {a : AV} (h : Cl a) : [AV.ptr i 0, a] = renL (rho nx [i, j]) [.ptr 0 0, a] := by
  simp only [renL, ren, h _]
  rfl

structure NmI (l : List (List UInt8)) where
  i : Nat
  s : Nat
  hi : i ≤ l.length

theorem reqEnc {r : Req} (ho : r.ok) (hl : r.names.length ≤ 1000000000000) : CallOK Try.prog 34 [r.av] [] 0 (Out (reqA r) [] 0) := by
  obtain ⟨k1, k2, k3, k4, k5, k6, k7⟩ := ho
  refine CallOK.fit (by decide) ?_
  refine callOK Try.call34 Try.func34 Try.ntmps34 rfl ?_
  conv => arg 4; whnf
  refine ⟨fun h => ?_, fun h => ?_⟩
  · simp only [Bool.cond_true_left, Bool.cond_false_right, Bool.or_eq_true, Bool.and_eq_true, Bool.not_eq_true', decide_eq_true_eq, beq_iff_eq, bne_iff_ne, u8s_length, Bool.not_eq_true, gt_iff_lt, ge_iff_le] at h
    (conv => arg 4; whnf); repeat (refine ⟨rfl, ?_⟩; conv => arg 4; whnf)
    have hc : r.chk = 16 := by rw [Req.chk, if_pos (by omega)]
    rw [reqA, r.out_no (by omega), hc]
    exact ⟨by decide, by (repeat' (first | with_reducible exact Le.refl _ _ | exact Le.bl | exact Le.lb | exact Le.nils | exact Le.nilsFull | exact Le.none | exact LeL.nil _ | refine LeL.cons ?_ ?_ | refine Le.tup ?_ | refine Le.agg ?_ | exact Le.refl _ _ | exact LeL.refl _ _)), trivial, (by (repeat' (first | with_reducible assumption | exact ClL.nil | exact Cl.int _ _ | exact Cl.bool _ | exact Cl.bl _ | exact Cl.bs _ | exact Cl.str _ | exact Cl.nils | exact Cl.nilp | exact Cl.rec _ | exact Cl.bat _ | exact Cl.recsV _ | exact Cl.strsV _ | exact Cl.intsV _ | exact Cl.req _ | exact Cl.rsp _ | exact Cl.reqA _ | exact Cl.rspA _ | exact Cl.batsV _ | exact Cl.getB _ | exact Cl.encA _ | exact Cl.firstA _ | refine ClL.cons ?_ ?_ | refine Cl.tup ?_ | refine Cl.agg ?_ | exact ClO.RO _ _)) : Cl _) _, trivial⟩
  · rw [← Bool.not_eq_true] at h; simp only [Bool.cond_true_left, Bool.cond_false_right, Bool.or_eq_true, Bool.and_eq_true, Bool.not_eq_true', decide_eq_true_eq, beq_iff_eq, bne_iff_ne, u8s_length, gt_iff_lt, ge_iff_le] at h
    (conv => arg 4; whnf); repeat (refine ⟨rfl, ?_⟩; conv => arg 4; whnf)
    refine ⟨fun h2 => ?_, fun h2 => ?_⟩
    · simp only [Bool.cond_true_left, Bool.cond_false_right, Bool.or_eq_true, Bool.and_eq_true, Bool.not_eq_true', decide_eq_true_eq, beq_iff_eq, bne_iff_ne, u8s_length, Bool.not_eq_true, gt_iff_lt, ge_iff_le] at h2
      (conv => arg 4; whnf); repeat (refine ⟨rfl, ?_⟩; conv => arg 4; whnf)
      have hc : r.chk = 1 := by rw [Req.chk, if_neg (by omega), if_pos (by omega)]
      rw [reqA, r.out_no (by omega), hc]
      exact ⟨by decide, by (repeat' (first | with_reducible exact Le.refl _ _ | exact Le.bl | exact Le.lb | exact Le.nils | exact Le.nilsFull | exact Le.none | exact LeL.nil _ | refine LeL.cons ?_ ?_ | refine Le.tup ?_ | refine Le.agg ?_ | exact Le.refl _ _ | exact LeL.refl _ _)), trivial, (by (repeat' (first | with_reducible assumption | exact ClL.nil | exact Cl.int _ _ | exact Cl.bool _ | exact Cl.bl _ | exact Cl.bs _ | exact Cl.str _ | exact Cl.nils | exact Cl.nilp | exact Cl.rec _ | exact Cl.bat _ | exact Cl.recsV _ | exact Cl.strsV _ | exact Cl.intsV _ | exact Cl.req _ | exact Cl.rsp _ | exact Cl.reqA _ | exact Cl.rspA _ | exact Cl.batsV _ | exact Cl.getB _ | exact Cl.encA _ | exact Cl.firstA _ | refine ClL.cons ?_ ?_ | refine Cl.tup ?_ | refine Cl.agg ?_ | exact ClO.RO _ _)) : Cl _) _, trivial⟩
    · rw [← Bool.not_eq_true] at h2; simp only [Bool.cond_true_left, Bool.cond_false_right, Bool.or_eq_true, Bool.and_eq_true, Bool.not_eq_true', decide_eq_true_eq, beq_iff_eq, bne_iff_ne, u8s_length, gt_iff_lt, ge_iff_le] at h2
      (conv => arg 4; whnf); repeat (refine ⟨rfl, ?_⟩; conv => arg 4; whnf)
      refine holds_args (args' := [strsV [r.client, r.topic, r.group, r.member]]) ⟨Le.noneOf rfl, trivial⟩ ?_
      refine call0 (long (by simp)) (ClL.cons (Cl.strsV _) ClL.nil) (by (repeat' (first | with_reducible assumption | exact ClL.nil | exact Cl.int _ _ | exact Cl.bool _ | exact Cl.bl _ | exact Cl.bs _ | exact Cl.str _ | exact Cl.nils | exact Cl.nilp | exact Cl.rec _ | exact Cl.bat _ | exact Cl.recsV _ | exact Cl.strsV _ | exact Cl.intsV _ | exact Cl.req _ | exact Cl.rsp _ | exact Cl.reqA _ | exact Cl.rspA _ | exact Cl.batsV _ | exact Cl.getB _ | exact Cl.encA _ | exact Cl.firstA _ | refine ClL.cons ?_ ?_ | refine Cl.tup ?_ | refine Cl.agg ?_ | exact ClO.RO _ _))) ?_
      have hd1 : decide (∃ s ∈ [r.client, r.topic, r.group, r.member], Long s) = decide (Long r.client ∨ Long r.topic ∨ Long r.group ∨ Long r.member) := by simp [decide_eq_decide]
      rw [hd1]
      (conv => arg 4; whnf); repeat (refine ⟨rfl, ?_⟩; conv => arg 4; whnf)
      refine ⟨fun h3 => ?_, fun h3 => ?_⟩
      · rw [strs_length] at h3
        simp only [Bool.cond_true_left, Bool.cond_false_right, Bool.or_eq_true, Bool.and_eq_true, Bool.not_eq_true', decide_eq_true_eq, beq_iff_eq, bne_iff_ne, u8s_length, Bool.not_eq_true, gt_iff_lt, ge_iff_le] at h3
        (conv => arg 4; whnf); repeat (refine ⟨rfl, ?_⟩; conv => arg 4; whnf)
        have hb : r.big := by
          unfold Req.big
          rcases h3 with h3 | h3
          · exact .inl h3
          · exact .inr (.inl (by omega))
        have hc : r.chk = 3 := by rw [Req.chk, if_neg (by omega), if_neg (by omega), if_pos hb]
        rw [reqA, r.out_no (by omega), hc]
        exact ⟨by decide, by (repeat' (first | with_reducible exact Le.refl _ _ | exact Le.bl | exact Le.lb | exact Le.nils | exact Le.nilsFull | exact Le.none | exact LeL.nil _ | refine LeL.cons ?_ ?_ | refine Le.tup ?_ | refine Le.agg ?_ | exact Le.refl _ _ | exact LeL.refl _ _)), trivial, (by (repeat' (first | with_reducible assumption | exact ClL.nil | exact Cl.int _ _ | exact Cl.bool _ | exact Cl.bl _ | exact Cl.bs _ | exact Cl.str _ | exact Cl.nils | exact Cl.nilp | exact Cl.rec _ | exact Cl.bat _ | exact Cl.recsV _ | exact Cl.strsV _ | exact Cl.intsV _ | exact Cl.req _ | exact Cl.rsp _ | exact Cl.reqA _ | exact Cl.rspA _ | exact Cl.batsV _ | exact Cl.getB _ | exact Cl.encA _ | exact Cl.firstA _ | refine ClL.cons ?_ ?_ | refine Cl.tup ?_ | refine Cl.agg ?_ | exact ClO.RO _ _)) : Cl _) _, trivial⟩
      · rw [strs_length] at h3
        rw [← Bool.not_eq_true] at h3; simp only [Bool.cond_true_left, Bool.cond_false_right, Bool.or_eq_true, Bool.and_eq_true, Bool.not_eq_true', decide_eq_true_eq, beq_iff_eq, bne_iff_ne, u8s_length, gt_iff_lt, ge_iff_le] at h3
        (conv => arg 4; whnf); repeat (refine ⟨rfl, ?_⟩; conv => arg 4; whnf)
        refine call0 (long (l := r.names) hl) (ClL.cons (Cl.strsV _) ClL.nil) (by (repeat' (first | with_reducible assumption | exact ClL.nil | exact Cl.int _ _ | exact Cl.bool _ | exact Cl.bl _ | exact Cl.bs _ | exact Cl.str _ | exact Cl.nils | exact Cl.nilp | exact Cl.rec _ | exact Cl.bat _ | exact Cl.recsV _ | exact Cl.strsV _ | exact Cl.intsV _ | exact Cl.req _ | exact Cl.rsp _ | exact Cl.reqA _ | exact Cl.rspA _ | exact Cl.batsV _ | exact Cl.getB _ | exact Cl.encA _ | exact Cl.firstA _ | refine ClL.cons ?_ ?_ | refine Cl.tup ?_ | refine Cl.agg ?_ | exact ClO.RO _ _))) ?_
        (conv => arg 4; whnf); repeat (refine ⟨rfl, ?_⟩; conv => arg 4; whnf)
        refine ⟨fun h4 => ?_, fun h4 => ?_⟩
        · rw [u8s_length] at h4
          simp only [Bool.cond_true_left, Bool.cond_false_right, Bool.or_eq_true, Bool.and_eq_true, Bool.not_eq_true', decide_eq_true_eq, beq_iff_eq, bne_iff_ne, u8s_length, Bool.not_eq_true, gt_iff_lt, ge_iff_le] at h4
          have hb : r.big := by
            unfold Req.big
            rcases h4 with h4 | h4
            · exact .inr (.inr (.inl h4))
            · exact .inr (.inr (.inr (by omega)))
          (conv => arg 4; whnf); repeat (refine ⟨rfl, ?_⟩; conv => arg 4; whnf)
          have hc : r.chk = 3 := by rw [Req.chk, if_neg (by omega), if_neg (by omega), if_pos hb]
          rw [reqA, r.out_no (by omega), hc]
          exact ⟨by decide, by (repeat' (first | with_reducible exact Le.refl _ _ | exact Le.bl | exact Le.lb | exact Le.nils | exact Le.nilsFull | exact Le.none | exact LeL.nil _ | refine LeL.cons ?_ ?_ | refine Le.tup ?_ | refine Le.agg ?_ | exact Le.refl _ _ | exact LeL.refl _ _)), trivial, (by (repeat' (first | with_reducible assumption | exact ClL.nil | exact Cl.int _ _ | exact Cl.bool _ | exact Cl.bl _ | exact Cl.bs _ | exact Cl.str _ | exact Cl.nils | exact Cl.nilp | exact Cl.rec _ | exact Cl.bat _ | exact Cl.recsV _ | exact Cl.strsV _ | exact Cl.intsV _ | exact Cl.req _ | exact Cl.rsp _ | exact Cl.reqA _ | exact Cl.rspA _ | exact Cl.batsV _ | exact Cl.getB _ | exact Cl.encA _ | exact Cl.firstA _ | refine ClL.cons ?_ ?_ | refine Cl.tup ?_ | refine Cl.agg ?_ | exact ClO.RO _ _)) : Cl _) _, trivial⟩
        · rw [u8s_length] at h4
          rw [← Bool.not_eq_true] at h4; simp only [Bool.cond_true_left, Bool.cond_false_right, Bool.or_eq_true, Bool.and_eq_true, Bool.not_eq_true', decide_eq_true_eq, beq_iff_eq, bne_iff_ne, u8s_length, gt_iff_lt, ge_iff_le] at h4
          have hb : ¬ r.big := by
            unfold Req.big
            rintro (h5 | h5 | h5 | h5)
            · exact h3 (.inl h5)
            · exact h3 (.inr (by omega))
            · exact h4 (.inl h5)
            · exact h4 (.inr (by omega))
          have hc : r.chk = 0 := by rw [Req.chk, if_neg (by omega), if_neg (by omega), if_neg hb]
          rw [reqA, r.out_yes hc, hc]
          have hlong : r.client.length ≤ 100 ∧ r.topic.length ≤ 100 ∧ r.group.length ≤ 100 ∧ r.member.length ≤ 100 ∧ r.names.length ≤ 30 ∧ r.data.length ≤ 65536 := by
            unfold Req.big Long at hb
            omega
          have hnm : ∀ s ∈ r.names, ¬ Long s := fun s hs hl => hb (.inr (.inr (.inl ⟨s, hs, hl⟩)))
          obtain ⟨l1, l2, l3, l4, l5, l6⟩ := hlong
          clear h3 h4 hd1 hb hc
          have i1 : I64 (r.client.length : Int) ∧ I64 (r.topic.length : Int) ∧ I64 (r.group.length : Int) ∧ I64 (r.member.length : Int) ∧ I64 (r.names.length : Int) := by unfold I64; omega
          obtain ⟨i1, i2, i3, i4, i5⟩ := i1
          have p1 := put_len i1
          have p2 := put_len i2
          have p3 := put_len i3
          have p4 := put_len i4
          have p5 := put_len i5
          have p6 := put_len k3
          have p7 := put_len k4
          have p8 := put_len k5
          have p9 := put_len k6
          have p10 := put_len k7
          (conv => arg 4; whnf); repeat (refine ⟨rfl, ?_⟩; conv => arg 4; whnf)
          refine holds_wnew 1 0 [.bl false] [.bool false] rfl (LeL.cons Le.bl (LeL.nil _)) (by decide) ?_
          refine callWE 1 2 (wFixedT (n := r.kind) (size := 2) (l := []) (by unfold I64; omega) (fits2 (by omega) (by omega)) (by simp only [List.length_append, fixed_len, List.length_nil]; omega)) (by decide) (by decide) rfl rfl (ClL.u8s _) (ClL.cons (Cl.bool _) ClL.nil) (ClL.u8s _) (ClL.cons (Cl.bool _) ClL.nil) rfl rfl fun s1 => ?_
          (conv => arg 4; whnf); repeat (refine ⟨rfl, ?_⟩; conv => arg 4; whnf)
          refine callWE 1 2 (wFixedT (n := r.corr) (size := 4) (by unfold I64; omega) (fits4 (by omega) (by omega)) (by simp only [List.length_append, fixed_len, List.length_nil]; omega)) (by decide) (by decide) rfl rfl (ClL.u8s _) (ClL.cons (Cl.bool _) ClL.nil) (ClL.u8s _) (ClL.cons (Cl.bool _) ClL.nil) rfl rfl fun s2 => ?_
          (conv => arg 4; whnf); repeat (refine ⟨rfl, ?_⟩; conv => arg 4; whnf)
          refine callW 1 2 (wText (b := r.client) (by simp only [List.length_append, fixed_len, List.length_nil]; omega)) (by decide) (by decide) rfl rfl (ClL.u8s _) (ClL.cons (Cl.bool _) ClL.nil) (ClL.u8s _) (ClL.cons (Cl.bool _) ClL.nil) rfl rfl ?_
          (conv => arg 4; whnf); repeat (refine ⟨rfl, ?_⟩; conv => arg 4; whnf)
          refine callW 1 2 (wText (b := r.topic) (by simp only [List.length_append, fixed_len, List.length_nil]; omega)) (by decide) (by decide) rfl rfl (ClL.u8s _) (ClL.cons (Cl.bool _) ClL.nil) (ClL.u8s _) (ClL.cons (Cl.bool _) ClL.nil) rfl rfl ?_
          (conv => arg 4; whnf); repeat (refine ⟨rfl, ?_⟩; conv => arg 4; whnf)
          refine callW 1 2 (wNum (n := r.part) k3 (by simp only [List.length_append, fixed_len, List.length_nil]; omega)) (by decide) (by decide) rfl rfl (ClL.u8s _) (ClL.cons (Cl.bool _) ClL.nil) (ClL.u8s _) (ClL.cons (Cl.bool _) ClL.nil) rfl rfl ?_
          (conv => arg 4; whnf); repeat (refine ⟨rfl, ?_⟩; conv => arg 4; whnf)
          refine callW 1 2 (wNum (n := r.off) k4 (by simp only [List.length_append, fixed_len, List.length_nil]; omega)) (by decide) (by decide) rfl rfl (ClL.u8s _) (ClL.cons (Cl.bool _) ClL.nil) (ClL.u8s _) (ClL.cons (Cl.bool _) ClL.nil) rfl rfl ?_
          (conv => arg 4; whnf); repeat (refine ⟨rfl, ?_⟩; conv => arg 4; whnf)
          refine callW 1 2 (wNum (n := r.time) k5 (by simp only [List.length_append, fixed_len, List.length_nil]; omega)) (by decide) (by decide) rfl rfl (ClL.u8s _) (ClL.cons (Cl.bool _) ClL.nil) (ClL.u8s _) (ClL.cons (Cl.bool _) ClL.nil) rfl rfl ?_
          (conv => arg 4; whnf); repeat (refine ⟨rfl, ?_⟩; conv => arg 4; whnf)
          refine callW 1 2 (wNum (n := r.max) k6 (by simp only [List.length_append, fixed_len, List.length_nil]; omega)) (by decide) (by decide) rfl rfl (ClL.u8s _) (ClL.cons (Cl.bool _) ClL.nil) (ClL.u8s _) (ClL.cons (Cl.bool _) ClL.nil) rfl rfl ?_
          (conv => arg 4; whnf); repeat (refine ⟨rfl, ?_⟩; conv => arg 4; whnf)
          refine callW 1 2 (wText (b := r.group) (by simp only [List.length_append, fixed_len, List.length_nil]; omega)) (by decide) (by decide) rfl rfl (ClL.u8s _) (ClL.cons (Cl.bool _) ClL.nil) (ClL.u8s _) (ClL.cons (Cl.bool _) ClL.nil) rfl rfl ?_
          (conv => arg 4; whnf); repeat (refine ⟨rfl, ?_⟩; conv => arg 4; whnf)
          refine callW 1 2 (wText (b := r.member) (by simp only [List.length_append, fixed_len, List.length_nil]; omega)) (by decide) (by decide) rfl rfl (ClL.u8s _) (ClL.cons (Cl.bool _) ClL.nil) (ClL.u8s _) (ClL.cons (Cl.bool _) ClL.nil) rfl rfl ?_
          (conv => arg 4; whnf); repeat (refine ⟨rfl, ?_⟩; conv => arg 4; whnf)
          refine callW 1 2 (wNum (n := r.gen) k7 (by simp only [List.length_append, fixed_len, List.length_nil]; omega)) (by decide) (by decide) rfl rfl (ClL.u8s _) (ClL.cons (Cl.bool _) ClL.nil) (ClL.u8s _) (ClL.cons (Cl.bool _) ClL.nil) rfl rfl ?_
          (conv => arg 4; whnf); repeat (refine ⟨rfl, ?_⟩; conv => arg 4; whnf)
          refine holds_args (args' := [.ptr 1 0, .int .i64 r.names.length]) ⟨Le.refl _ _, Le.of_eq (congrArg (fun n : Nat => AV.int .i64 n) (strs_length _)), trivial⟩ ?_
          refine callW 1 2 (wNum (n := (r.names.length : Int)) i5 (by simp only [List.length_append, fixed_len, List.length_nil]; omega)) (by decide) (by decide) rfl rfl (ClL.u8s _) (ClL.cons (Cl.bool _) ClL.nil) (ClL.u8s _) (ClL.cons (Cl.bool _) ClL.nil) rfl rfl ?_
          (conv => arg 4; whnf); repeat (refine ⟨rfl, ?_⟩; conv => arg 4; whnf)
          have hhead : u8s ([] ++ fixed r.kind.toNat (Int.toNat 2) ++ fixed r.corr.toNat (Int.toNat 4) ++ (put r.client.length ++ r.client) ++ (put r.topic.length ++ r.topic) ++ put r.part ++ put r.off ++ put r.time ++ put r.max ++ (put r.group.length ++ r.group) ++ (put r.member.length ++ r.member) ++ put r.gen ++ put r.names.length) = u8s (r.head ++ textsB (r.names.take 0)) := by
            simp [Req.head, textsB, lenB]
          have hhl : r.head.length ≤ 600 := by
            simp only [Req.head, lenB, List.length_append, fixed_len]; omega
          refine tri_loopG (ι := NmI r.names) (fun a => ⟨[(99, .int .i64 a.i), (98, .int .i64 r.names.length), (97, strsV r.names), (4, .ptr 1 0), (1, .ptr 0 0)], [(2, .tip a.s), (1, wob 2 a.s 0 (u8s (r.head ++ textsB (r.names.take a.i))) [.bool false]), (0, reqO r)], 3, 116⟩) (fun a => r.names.length - a.i) ⟨0, s2 + 2 + 2 + 1 + 1 + 1 + 1 + 2 + 2 + 1 + 1, Nat.zero_le _⟩ (WkG.of rfl rfl ⟨Le.refl _ _, Le.of_eq (congrArg (fun n : Nat => AV.int .i64 n) (strs_length _)), Le.refl _ _, Le.refl _ _, Le.refl _ _, trivial⟩ ⟨⟨_, rfl, LeO.refl _ _⟩, ⟨_, rfl, LeL.cons (Le.of_eq (congrArg (AV.sl _ 0) hhead)) (LeL.refl _ _)⟩, ⟨_, rfl, LeO.refl _ _⟩, trivial⟩ ⟨rfl, rfl, Cl.strsV _ _, rfl, rfl, trivial⟩ ⟨⟨by decide, rfl⟩, ⟨by decide, cut_wob _⟩, ⟨by decide, ClO.reqO _ _⟩, trivial⟩) ?_
          rintro ⟨i, s, hi⟩
          dsimp only
          have htl := textsB_len (l := r.names.take i) fun s hs => hnm s (List.mem_of_mem_take hs)
          rw [List.length_take] at htl
          conv => arg 4; whnf
          refine ⟨fun h => ?_, fun h => ?_⟩
          · have h : i < r.names.length := by simp at h; omega
            obtain ⟨x, hx⟩ : ∃ x, r.names[i]? = some x := ⟨_, List.getElem?_eq_getElem h⟩
            have hxl := hnm x (List.mem_of_getElem? hx)
            unfold Long at hxl
            (conv => arg 4; whnf); repeat (refine ⟨rfl, ?_⟩; conv => arg 4; whnf)
            refine ⟨.str x, ⟨by omega, strs_get hx⟩, ?_⟩
            (conv => arg 4; whnf); repeat (refine ⟨rfl, ?_⟩; conv => arg 4; whnf)
            refine callW 1 2 (wText (b := x) (by simp only [List.length_append]; omega)) (by decide) (by decide) rfl rfl (ClL.u8s _) (ClL.cons (Cl.bool _) ClL.nil) (ClL.u8s _) (ClL.cons (Cl.bool _) ClL.nil) rfl rfl ?_
            (conv => arg 4; whnf); repeat (refine ⟨rfl, ?_⟩; conv => arg 4; whnf)
            exact ⟨⟨i + 1, s + 2, by omega⟩, by show r.names.length - (i + 1) < r.names.length - i; omega, WkG.of rfl rfl ⟨Le.of_eq (succ_i64 (by omega)), Le.refl _ _, Le.refl _ _, Le.refl _ _, Le.refl _ _, trivial⟩ ⟨⟨_, rfl, LeO.refl _ _⟩, ⟨_, rfl, LeL.cons (Le.of_eq (congrArg (AV.sl _ 0) (by rw [textsB_take hx, lenB]; simp only [List.append_assoc]))) (LeL.refl _ _)⟩, ⟨_, rfl, LeO.refl _ _⟩, trivial⟩ ⟨rfl, rfl, Cl.strsV _ _, rfl, rfl, trivial⟩ ⟨⟨by decide, rfl⟩, ⟨by decide, cut_wob _⟩, ⟨by decide, ClO.reqO _ _⟩, trivial⟩⟩
          · have h : i = r.names.length := by simp at h; omega
            subst h
            rw [show r.names.take r.names.length = r.names from List.take_length]
            rw [List.take_length] at htl
            conv => arg 4; whnf
            refine fin_exit ?_
            show holds _ _ _ _
            conv => arg 4; whnf
            refine callW 1 2 (wBytes (b := r.data) (by simp only [List.length_append]; omega)) (by decide) (by decide) rfl rfl (ClL.u8s _) (ClL.cons (Cl.bool _) ClL.nil) (ClL.u8s _) (ClL.cons (Cl.bool _) ClL.nil) (argsW (Cl.bs _)) rfl ?_
            (conv => arg 4; whnf); repeat (refine ⟨rfl, ?_⟩; conv => arg 4; whnf)
            refine callWD 1 2 (wDoneT (by simp only [List.length_append]; have := put_len (n := (r.data.length : Int)) (by unfold I64; omega); omega)) (by decide) (by decide) rfl rfl (ClL.u8s _) (ClL.cons (Cl.bool _) ClL.nil) (ClL.u8s _) (ClL.cons (Cl.bool _) ClL.nil) (ClL.u8s _) (ClL.cons (Cl.bl _) ClL.nil) rfl fun s7 => ?_
            (conv => arg 4; whnf); repeat (refine ⟨rfl, ?_⟩; conv => arg 4; whnf)
            exact ⟨by decide, Le.tup (LeL.cons Le.none (LeL.refl _ _)), trivial, Cl.tup (ClL.cons (Cl.bs _) (ClL.cons (Cl.int _ _) ClL.nil)) _, trivial⟩
end Go.Proofs.Ytbehegpahiefaaa.Pr

namespace Go.Proofs.Ytbehegpahiefaaa.Pr
set_option maxRecDepth 100000
set_option maxHeartbeats 80000000
open Go.Sym

noncomputable def Rsp.out (r : Rsp) : List UInt8 := if r.chk = 0 then r.enc else []
noncomputable def rspA (r : Rsp) : AV := .tup [bs r.out, .int .i64 r.chk]
theorem Cl.rspA (r : Rsp) : Cl (rspA r) := Cl.tup (ClL.cons (Cl.bs _) (ClL.cons (Cl.int _ _) ClL.nil))
theorem Rsp.out_yes {r : Rsp} (h : r.chk = 0) : r.out = r.enc := by rw [Rsp.out, if_pos h]
theorem Rsp.out_no {r : Rsp} (h : r.chk ≠ 0) : r.out = [] := by rw [Rsp.out, if_neg h]
def rspO (r : Rsp) : AObj := .cells [.int .i64 r.corr, .int .i64 r.code, .int .i64 r.off, .int .i64 r.last, .int .i64 r.gen, .str r.member, .str r.leader, strsV r.names, .sl .none 0 (ints r.nums), bs r.data]
theorem ClO.rspO (r : Rsp) : ClO (rspO r) := by
  refine ClO.cells ?_
  (repeat' (first | with_reducible assumption | exact ClL.nil | exact Cl.int _ _ | exact Cl.bool _ | exact Cl.bl _ | exact Cl.bs _ | exact Cl.str _ | exact Cl.nils | exact Cl.nilp | exact Cl.rec _ | exact Cl.bat _ | exact Cl.recsV _ | exact Cl.strsV _ | exact Cl.intsV _ | exact Cl.req _ | exact Cl.rsp _ | exact Cl.reqA _ | exact Cl.rspA _ | exact Cl.batsV _ | exact Cl.getB _ | exact Cl.encA _ | exact Cl.firstA _ | refine ClL.cons ?_ ?_ | refine Cl.tup ?_ | refine Cl.agg ?_ | exact ClO.RO _ _))

structure NuI (l : List Int) where
  i : Nat
  s : Nat
  hi : i ≤ l.length

theorem rspEnc {r : Rsp} (ho : r.ok) (hl : r.names.length ≤ 1000000000000) : CallOK Try.prog 44 [r.av] [] 0 (Out (rspA r) [] 0) := by
  obtain ⟨k1, k2, k3, k4, k5, k6⟩ := ho
  refine CallOK.fit (by decide) ?_
  refine callOK Try.call44 Try.func44 Try.ntmps44 rfl ?_
  conv => arg 4; whnf
  refine ⟨fun h => ?_, fun h => ?_⟩
  · simp only [Bool.cond_true_left, Bool.cond_false_right, Bool.or_eq_true, Bool.and_eq_true, Bool.not_eq_true', decide_eq_true_eq, beq_iff_eq, bne_iff_ne, u8s_length, Bool.not_eq_true, gt_iff_lt, ge_iff_le] at h
    (conv => arg 4; whnf); repeat (refine ⟨rfl, ?_⟩; conv => arg 4; whnf)
    have hc : r.chk = 1 := by rw [Rsp.chk, if_pos (by omega)]
    rw [rspA, r.out_no (by omega), hc]
    exact ⟨by decide, by (repeat' (first | with_reducible exact Le.refl _ _ | exact Le.bl | exact Le.lb | exact Le.nils | exact Le.nilsFull | exact Le.none | exact LeL.nil _ | refine LeL.cons ?_ ?_ | refine Le.tup ?_ | refine Le.agg ?_ | exact Le.refl _ _ | exact LeL.refl _ _)), trivial, (by (repeat' (first | with_reducible assumption | exact ClL.nil | exact Cl.int _ _ | exact Cl.bool _ | exact Cl.bl _ | exact Cl.bs _ | exact Cl.str _ | exact Cl.nils | exact Cl.nilp | exact Cl.rec _ | exact Cl.bat _ | exact Cl.recsV _ | exact Cl.strsV _ | exact Cl.intsV _ | exact Cl.req _ | exact Cl.rsp _ | exact Cl.reqA _ | exact Cl.rspA _ | exact Cl.batsV _ | exact Cl.getB _ | exact Cl.encA _ | exact Cl.firstA _ | refine ClL.cons ?_ ?_ | refine Cl.tup ?_ | refine Cl.agg ?_ | exact ClO.RO _ _)) : Cl _) _, trivial⟩
  · rw [← Bool.not_eq_true] at h; simp only [Bool.cond_true_left, Bool.cond_false_right, Bool.or_eq_true, Bool.and_eq_true, Bool.not_eq_true', decide_eq_true_eq, beq_iff_eq, bne_iff_ne, u8s_length, gt_iff_lt, ge_iff_le] at h
    (conv => arg 4; whnf); repeat (refine ⟨rfl, ?_⟩; conv => arg 4; whnf)
    refine holds_args (args' := [strsV [r.member, r.leader]]) ⟨Le.noneOf rfl, trivial⟩ ?_
    refine call0 (long (by simp)) (ClL.cons (Cl.strsV _) ClL.nil) (by (repeat' (first | with_reducible assumption | exact ClL.nil | exact Cl.int _ _ | exact Cl.bool _ | exact Cl.bl _ | exact Cl.bs _ | exact Cl.str _ | exact Cl.nils | exact Cl.nilp | exact Cl.rec _ | exact Cl.bat _ | exact Cl.recsV _ | exact Cl.strsV _ | exact Cl.intsV _ | exact Cl.req _ | exact Cl.rsp _ | exact Cl.reqA _ | exact Cl.rspA _ | exact Cl.batsV _ | exact Cl.getB _ | exact Cl.encA _ | exact Cl.firstA _ | refine ClL.cons ?_ ?_ | refine Cl.tup ?_ | refine Cl.agg ?_ | exact ClO.RO _ _))) ?_
    have hd1 : decide (∃ s ∈ [r.member, r.leader], Long s) = decide (Long r.member ∨ Long r.leader) := by simp [decide_eq_decide]
    rw [hd1]
    (conv => arg 4; whnf); repeat (refine ⟨rfl, ?_⟩; conv => arg 4; whnf)
    refine ⟨fun h3 => ?_, fun h3 => ?_⟩
    · rw [strs_length] at h3
      simp only [Bool.cond_true_left, Bool.cond_false_right, Bool.or_eq_true, Bool.and_eq_true, Bool.not_eq_true', decide_eq_true_eq, beq_iff_eq, bne_iff_ne, u8s_length, Bool.not_eq_true, gt_iff_lt, ge_iff_le] at h3
      (conv => arg 4; whnf); repeat (refine ⟨rfl, ?_⟩; conv => arg 4; whnf)
      have hb : r.big := by
        unfold Rsp.big
        rcases h3 with h3 | h3
        · exact .inl h3
        · exact .inr (.inl (by omega))
      have hc : r.chk = 3 := by rw [Rsp.chk, if_neg (by omega), if_pos hb]
      rw [rspA, r.out_no (by omega), hc]
      exact ⟨by decide, by (repeat' (first | with_reducible exact Le.refl _ _ | exact Le.bl | exact Le.lb | exact Le.nils | exact Le.nilsFull | exact Le.none | exact LeL.nil _ | refine LeL.cons ?_ ?_ | refine Le.tup ?_ | refine Le.agg ?_ | exact Le.refl _ _ | exact LeL.refl _ _)), trivial, (by (repeat' (first | with_reducible assumption | exact ClL.nil | exact Cl.int _ _ | exact Cl.bool _ | exact Cl.bl _ | exact Cl.bs _ | exact Cl.str _ | exact Cl.nils | exact Cl.nilp | exact Cl.rec _ | exact Cl.bat _ | exact Cl.recsV _ | exact Cl.strsV _ | exact Cl.intsV _ | exact Cl.req _ | exact Cl.rsp _ | exact Cl.reqA _ | exact Cl.rspA _ | exact Cl.batsV _ | exact Cl.getB _ | exact Cl.encA _ | exact Cl.firstA _ | refine ClL.cons ?_ ?_ | refine Cl.tup ?_ | refine Cl.agg ?_ | exact ClO.RO _ _)) : Cl _) _, trivial⟩
    · rw [strs_length] at h3
      rw [← Bool.not_eq_true] at h3; simp only [Bool.cond_true_left, Bool.cond_false_right, Bool.or_eq_true, Bool.and_eq_true, Bool.not_eq_true', decide_eq_true_eq, beq_iff_eq, bne_iff_ne, u8s_length, gt_iff_lt, ge_iff_le] at h3
      (conv => arg 4; whnf); repeat (refine ⟨rfl, ?_⟩; conv => arg 4; whnf)
      refine call0 (long (l := r.names) hl) (ClL.cons (Cl.strsV _) ClL.nil) (by (repeat' (first | with_reducible assumption | exact ClL.nil | exact Cl.int _ _ | exact Cl.bool _ | exact Cl.bl _ | exact Cl.bs _ | exact Cl.str _ | exact Cl.nils | exact Cl.nilp | exact Cl.rec _ | exact Cl.bat _ | exact Cl.recsV _ | exact Cl.strsV _ | exact Cl.intsV _ | exact Cl.req _ | exact Cl.rsp _ | exact Cl.reqA _ | exact Cl.rspA _ | exact Cl.batsV _ | exact Cl.getB _ | exact Cl.encA _ | exact Cl.firstA _ | refine ClL.cons ?_ ?_ | refine Cl.tup ?_ | refine Cl.agg ?_ | exact ClO.RO _ _))) ?_
      (conv => arg 4; whnf); repeat (refine ⟨rfl, ?_⟩; conv => arg 4; whnf)
      refine ⟨fun h4 => ?_, fun h4 => ?_⟩
      · rw [u8s_length, ints_length] at h4
        simp only [Bool.cond_true_left, Bool.cond_false_right, Bool.or_eq_true, Bool.and_eq_true, Bool.not_eq_true', decide_eq_true_eq, beq_iff_eq, bne_iff_ne, u8s_length, Bool.not_eq_true, gt_iff_lt, ge_iff_le] at h4
        have hb : r.big := by
          unfold Rsp.big
          rcases h4 with (h4 | h4) | h4
          · exact .inr (.inr (.inl h4))
          · exact .inr (.inr (.inr (.inl (by omega))))
          · exact .inr (.inr (.inr (.inr (by omega))))
        (conv => arg 4; whnf); repeat (refine ⟨rfl, ?_⟩; conv => arg 4; whnf)
        have hc : r.chk = 3 := by rw [Rsp.chk, if_neg (by omega), if_pos hb]
        rw [rspA, r.out_no (by omega), hc]
        exact ⟨by decide, by (repeat' (first | with_reducible exact Le.refl _ _ | exact Le.bl | exact Le.lb | exact Le.nils | exact Le.nilsFull | exact Le.none | exact LeL.nil _ | refine LeL.cons ?_ ?_ | refine Le.tup ?_ | refine Le.agg ?_ | exact Le.refl _ _ | exact LeL.refl _ _)), trivial, (by (repeat' (first | with_reducible assumption | exact ClL.nil | exact Cl.int _ _ | exact Cl.bool _ | exact Cl.bl _ | exact Cl.bs _ | exact Cl.str _ | exact Cl.nils | exact Cl.nilp | exact Cl.rec _ | exact Cl.bat _ | exact Cl.recsV _ | exact Cl.strsV _ | exact Cl.intsV _ | exact Cl.req _ | exact Cl.rsp _ | exact Cl.reqA _ | exact Cl.rspA _ | exact Cl.batsV _ | exact Cl.getB _ | exact Cl.encA _ | exact Cl.firstA _ | refine ClL.cons ?_ ?_ | refine Cl.tup ?_ | refine Cl.agg ?_ | exact ClO.RO _ _)) : Cl _) _, trivial⟩
      · rw [u8s_length, ints_length] at h4
        rw [← Bool.not_eq_true] at h4; simp only [Bool.cond_true_left, Bool.cond_false_right, Bool.or_eq_true, Bool.and_eq_true, Bool.not_eq_true', decide_eq_true_eq, beq_iff_eq, bne_iff_ne, u8s_length, gt_iff_lt, ge_iff_le] at h4
        have hb : ¬ r.big := by
          unfold Rsp.big
          rintro (h5 | h5 | h5 | h5 | h5)
          · exact h3 (.inl h5)
          · exact h3 (.inr (by omega))
          · exact h4 (.inl (.inl h5))
          · exact h4 (.inl (.inr (by omega)))
          · exact h4 (.inr (by omega))
        have hc : r.chk = 0 := by rw [Rsp.chk, if_neg (by omega), if_neg hb]
        rw [rspA, r.out_yes hc, hc]
        have hlong : r.member.length ≤ 100 ∧ r.leader.length ≤ 100 ∧ r.names.length ≤ 1000 ∧ r.nums.length ≤ 1000 ∧ r.data.length ≤ 131072 := by
          unfold Rsp.big Long at hb
          omega
        have hnm : ∀ s ∈ r.names, ¬ Long s := fun s hs hl => hb (.inr (.inr (.inl ⟨s, hs, hl⟩)))
        obtain ⟨l1, l2, l3, l4, l5⟩ := hlong
        clear h3 h4 hd1 hb hc
        have i1 : I64 (r.member.length : Int) ∧ I64 (r.leader.length : Int) ∧ I64 (r.names.length : Int) ∧ I64 (r.nums.length : Int) := by unfold I64; omega
        obtain ⟨i1, i2, i3, i4⟩ := i1
        have p1 := put_len i1
        have p2 := put_len i2
        have p3 := put_len i3
        have p4 := put_len i4
        have p6 := put_len k3
        have p7 := put_len k4
        have p8 := put_len k5
        (conv => arg 4; whnf); repeat (refine ⟨rfl, ?_⟩; conv => arg 4; whnf)
        refine holds_wnew 1 0 [.bl false] [.bool false] rfl (LeL.cons Le.bl (LeL.nil _)) (by decide) ?_
        refine callWE 1 2 (wFixedT (n := r.corr) (size := 4) (l := []) (by unfold I64; omega) (fits4 (by omega) (by omega)) (by simp only [List.length_append, fixed_len, List.length_nil]; omega)) (by decide) (by decide) rfl rfl (ClL.u8s _) (ClL.cons (Cl.bool _) ClL.nil) (ClL.u8s _) (ClL.cons (Cl.bool _) ClL.nil) rfl rfl fun s1 => ?_
        (conv => arg 4; whnf); repeat (refine ⟨rfl, ?_⟩; conv => arg 4; whnf)
        refine callWE 1 2 (wFixedT (n := r.code) (size := 2) (by unfold I64; omega) (fits2 (by omega) (by omega)) (by simp only [List.length_append, fixed_len, List.length_nil]; omega)) (by decide) (by decide) rfl rfl (ClL.u8s _) (ClL.cons (Cl.bool _) ClL.nil) (ClL.u8s _) (ClL.cons (Cl.bool _) ClL.nil) rfl rfl fun s2 => ?_
        (conv => arg 4; whnf); repeat (refine ⟨rfl, ?_⟩; conv => arg 4; whnf)
        refine callW 1 2 (wNum (n := r.off) k3 (by simp only [List.length_append, fixed_len, List.length_nil]; omega)) (by decide) (by decide) rfl rfl (ClL.u8s _) (ClL.cons (Cl.bool _) ClL.nil) (ClL.u8s _) (ClL.cons (Cl.bool _) ClL.nil) rfl rfl ?_
        (conv => arg 4; whnf); repeat (refine ⟨rfl, ?_⟩; conv => arg 4; whnf)
        refine callW 1 2 (wNum (n := r.last) k4 (by simp only [List.length_append, fixed_len, List.length_nil]; omega)) (by decide) (by decide) rfl rfl (ClL.u8s _) (ClL.cons (Cl.bool _) ClL.nil) (ClL.u8s _) (ClL.cons (Cl.bool _) ClL.nil) rfl rfl ?_
        (conv => arg 4; whnf); repeat (refine ⟨rfl, ?_⟩; conv => arg 4; whnf)
        refine callW 1 2 (wNum (n := r.gen) k5 (by simp only [List.length_append, fixed_len, List.length_nil]; omega)) (by decide) (by decide) rfl rfl (ClL.u8s _) (ClL.cons (Cl.bool _) ClL.nil) (ClL.u8s _) (ClL.cons (Cl.bool _) ClL.nil) rfl rfl ?_
        (conv => arg 4; whnf); repeat (refine ⟨rfl, ?_⟩; conv => arg 4; whnf)
        refine callW 1 2 (wText (b := r.member) (by simp only [List.length_append, fixed_len, List.length_nil]; omega)) (by decide) (by decide) rfl rfl (ClL.u8s _) (ClL.cons (Cl.bool _) ClL.nil) (ClL.u8s _) (ClL.cons (Cl.bool _) ClL.nil) rfl rfl ?_
        (conv => arg 4; whnf); repeat (refine ⟨rfl, ?_⟩; conv => arg 4; whnf)
        refine callW 1 2 (wText (b := r.leader) (by simp only [List.length_append, fixed_len, List.length_nil]; omega)) (by decide) (by decide) rfl rfl (ClL.u8s _) (ClL.cons (Cl.bool _) ClL.nil) (ClL.u8s _) (ClL.cons (Cl.bool _) ClL.nil) rfl rfl ?_
        (conv => arg 4; whnf); repeat (refine ⟨rfl, ?_⟩; conv => arg 4; whnf)
        refine holds_args (args' := [.ptr 1 0, .int .i64 r.names.length]) ⟨Le.refl _ _, Le.of_eq (congrArg (fun n : Nat => AV.int .i64 n) (strs_length _)), trivial⟩ ?_
        refine callW 1 2 (wNum (n := (r.names.length : Int)) i3 (by simp only [List.length_append, fixed_len, List.length_nil]; omega)) (by decide) (by decide) rfl rfl (ClL.u8s _) (ClL.cons (Cl.bool _) ClL.nil) (ClL.u8s _) (ClL.cons (Cl.bool _) ClL.nil) rfl rfl ?_
        (conv => arg 4; whnf); repeat (refine ⟨rfl, ?_⟩; conv => arg 4; whnf)
        have hhead : u8s ([] ++ fixed r.corr.toNat (Int.toNat 4) ++ fixed r.code.toNat (Int.toNat 2) ++ put r.off ++ put r.last ++ put r.gen ++ (put r.member.length ++ r.member) ++ (put r.leader.length ++ r.leader) ++ put r.names.length) = u8s (r.head ++ textsB (r.names.take 0)) := by
          simp [Rsp.head, textsB, lenB]
        have hhl : r.head.length ≤ 600 := by
          simp only [Rsp.head, lenB, List.length_append, fixed_len]; omega
        refine tri_loopG (ι := NmI r.names) (fun a => ⟨[(91, .int .i64 a.i), (90, .int .i64 r.names.length), (89, strsV r.names), (4, .ptr 1 0), (1, .ptr 0 0)], [(2, .tip a.s), (1, wob 2 a.s 0 (u8s (r.head ++ textsB (r.names.take a.i))) [.bool false]), (0, rspO r)], 3, 124⟩) (fun a => r.names.length - a.i) ⟨0, s2 + 1 + 1 + 1 + 2 + 2 + 1, Nat.zero_le _⟩ (WkG.of rfl rfl ⟨Le.refl _ _, Le.of_eq (congrArg (fun n : Nat => AV.int .i64 n) (strs_length _)), Le.refl _ _, Le.refl _ _, Le.refl _ _, trivial⟩ ⟨⟨_, rfl, LeO.refl _ _⟩, ⟨_, rfl, LeL.cons (Le.of_eq (congrArg (AV.sl _ 0) hhead)) (LeL.refl _ _)⟩, ⟨_, rfl, LeO.refl _ _⟩, trivial⟩ ⟨rfl, rfl, Cl.strsV _ _, rfl, rfl, trivial⟩ ⟨⟨by decide, rfl⟩, ⟨by decide, cut_wob _⟩, ⟨by decide, ClO.rspO _ _⟩, trivial⟩) ?_
        rintro ⟨i, s, hi⟩
        dsimp only
        have htl := textsB_len (l := r.names.take i) fun s hs => hnm s (List.mem_of_mem_take hs)
        rw [List.length_take] at htl
        conv => arg 4; whnf
        refine ⟨fun h => ?_, fun h => ?_⟩
        · have h : i < r.names.length := by simp at h; omega
          obtain ⟨x, hx⟩ : ∃ x, r.names[i]? = some x := ⟨_, List.getElem?_eq_getElem h⟩
          have hxl := hnm x (List.mem_of_getElem? hx)
          unfold Long at hxl
          (conv => arg 4; whnf); repeat (refine ⟨rfl, ?_⟩; conv => arg 4; whnf)
          refine ⟨.str x, ⟨by omega, strs_get hx⟩, ?_⟩
          (conv => arg 4; whnf); repeat (refine ⟨rfl, ?_⟩; conv => arg 4; whnf)
          refine callW 1 2 (wText (b := x) (by simp only [List.length_append]; omega)) (by decide) (by decide) rfl rfl (ClL.u8s _) (ClL.cons (Cl.bool _) ClL.nil) (ClL.u8s _) (ClL.cons (Cl.bool _) ClL.nil) rfl rfl ?_
          (conv => arg 4; whnf); repeat (refine ⟨rfl, ?_⟩; conv => arg 4; whnf)
          exact ⟨⟨i + 1, s + 2, by omega⟩, by show r.names.length - (i + 1) < r.names.length - i; omega, WkG.of rfl rfl ⟨Le.of_eq (succ_i64 (by omega)), Le.refl _ _, Le.refl _ _, Le.refl _ _, Le.refl _ _, trivial⟩ ⟨⟨_, rfl, LeO.refl _ _⟩, ⟨_, rfl, LeL.cons (Le.of_eq (congrArg (AV.sl _ 0) (by rw [textsB_take hx, lenB]; simp only [List.append_assoc]))) (LeL.refl _ _)⟩, ⟨_, rfl, LeO.refl _ _⟩, trivial⟩ ⟨rfl, rfl, Cl.strsV _ _, rfl, rfl, trivial⟩ ⟨⟨by decide, rfl⟩, ⟨by decide, cut_wob _⟩, ⟨by decide, ClO.rspO _ _⟩, trivial⟩⟩
        · have h : i = r.names.length := by simp at h; omega
          subst h
          rw [show r.names.take r.names.length = r.names from List.take_length]
          rw [List.take_length] at htl
          conv => arg 4; whnf
          refine fin_exit ?_
          show holds _ _ _ _
          conv => arg 4; whnf
          refine holds_args (args' := [.ptr 1 0, .int .i64 r.nums.length]) ⟨Le.refl _ _, Le.of_eq (congrArg (fun n : Nat => AV.int .i64 n) (ints_length _)), trivial⟩ ?_
          refine callW 1 2 (wNum (n := (r.nums.length : Int)) i4 (by simp only [List.length_append]; omega)) (by decide) (by decide) rfl rfl (ClL.u8s _) (ClL.cons (Cl.bool _) ClL.nil) (ClL.u8s _) (ClL.cons (Cl.bool _) ClL.nil) rfl rfl ?_
          (conv => arg 4; whnf); repeat (refine ⟨rfl, ?_⟩; conv => arg 4; whnf)
          refine tri_loopG (ι := NuI r.nums) (fun a => ⟨[(107, .int .i64 a.i), (106, .int .i64 r.nums.length), (105, .sl .none 0 (ints r.nums)), (4, .ptr 1 0), (1, .ptr 0 0)], [(2, .tip a.s), (1, wob 2 a.s 0 (u8s (r.head ++ textsB r.names ++ put r.nums.length ++ numsB (r.nums.take a.i))) [.bool false]), (0, rspO r)], 3, 124⟩) (fun a => r.nums.length - a.i) ⟨0, s + 1, Nat.zero_le _⟩ (WkG.of rfl rfl ⟨Le.refl _ _, Le.of_eq (congrArg (fun n : Nat => AV.int .i64 n) (ints_length _)), Le.refl _ _, Le.refl _ _, Le.refl _ _, trivial⟩ ⟨⟨_, rfl, LeO.refl _ _⟩, ⟨_, rfl, LeL.cons (Le.of_eq (congrArg (AV.sl _ 0) (by simp [numsB]))) (LeL.refl _ _)⟩, ⟨_, rfl, LeO.refl _ _⟩, trivial⟩ ⟨rfl, rfl, Cl.intsV _ _, rfl, rfl, trivial⟩ ⟨⟨by decide, rfl⟩, ⟨by decide, cut_wob _⟩, ⟨by decide, ClO.rspO _ _⟩, trivial⟩) ?_
          rintro ⟨j, s', hj⟩
          dsimp only
          have hnl := numsB_len (l := r.nums.take j) fun n hn => k6 n (List.mem_of_mem_take hn)
          rw [List.length_take] at hnl
          conv => arg 4; whnf
          refine ⟨fun h => ?_, fun h => ?_⟩
          · have h : j < r.nums.length := by simp at h; omega
            obtain ⟨x, hx⟩ : ∃ x, r.nums[j]? = some x := ⟨_, List.getElem?_eq_getElem h⟩
            (conv => arg 4; whnf); repeat (refine ⟨rfl, ?_⟩; conv => arg 4; whnf)
            refine ⟨.int .i64 x, ⟨by omega, ints_get hx⟩, ?_⟩
            (conv => arg 4; whnf); repeat (refine ⟨rfl, ?_⟩; conv => arg 4; whnf)
            refine callW 1 2 (wNum (n := x) (k6 x (List.mem_of_getElem? hx)) (by simp only [List.length_append]; omega)) (by decide) (by decide) rfl rfl (ClL.u8s _) (ClL.cons (Cl.bool _) ClL.nil) (ClL.u8s _) (ClL.cons (Cl.bool _) ClL.nil) rfl rfl ?_
            (conv => arg 4; whnf); repeat (refine ⟨rfl, ?_⟩; conv => arg 4; whnf)
            exact ⟨⟨j + 1, s' + 1, by omega⟩, by show r.nums.length - (j + 1) < r.nums.length - j; omega, WkG.of rfl rfl ⟨Le.of_eq (succ_i64 (by omega)), Le.refl _ _, Le.refl _ _, Le.refl _ _, Le.refl _ _, trivial⟩ ⟨⟨_, rfl, LeO.refl _ _⟩, ⟨_, rfl, LeL.cons (Le.of_eq (congrArg (AV.sl _ 0) (by rw [numsB_take hx]; simp only [List.append_assoc]))) (LeL.refl _ _)⟩, ⟨_, rfl, LeO.refl _ _⟩, trivial⟩ ⟨rfl, rfl, Cl.intsV _ _, rfl, rfl, trivial⟩ ⟨⟨by decide, rfl⟩, ⟨by decide, cut_wob _⟩, ⟨by decide, ClO.rspO _ _⟩, trivial⟩⟩
          · have h : j = r.nums.length := by simp at h; omega
            subst h
            rw [show r.nums.take r.nums.length = r.nums from List.take_length]
            rw [List.take_length] at hnl
            conv => arg 4; whnf
            refine fin_exit ?_
            show holds _ _ _ _
            conv => arg 4; whnf
            refine callW 1 2 (wBytes (b := r.data) (by simp only [List.length_append]; omega)) (by decide) (by decide) rfl rfl (ClL.u8s _) (ClL.cons (Cl.bool _) ClL.nil) (ClL.u8s _) (ClL.cons (Cl.bool _) ClL.nil) (argsW (Cl.bs _)) rfl ?_
            (conv => arg 4; whnf); repeat (refine ⟨rfl, ?_⟩; conv => arg 4; whnf)
            refine callWD 1 2 (wDoneT (by simp only [List.length_append]; have := put_len (n := (r.data.length : Int)) (by unfold I64; omega); omega)) (by decide) (by decide) rfl rfl (ClL.u8s _) (ClL.cons (Cl.bool _) ClL.nil) (ClL.u8s _) (ClL.cons (Cl.bool _) ClL.nil) (ClL.u8s _) (ClL.cons (Cl.bl _) ClL.nil) rfl fun s7 => ?_
            (conv => arg 4; whnf); repeat (refine ⟨rfl, ?_⟩; conv => arg 4; whnf)
            exact ⟨by decide, Le.tup (LeL.cons Le.none (LeL.refl _ _)), trivial, Cl.tup (ClL.cons (Cl.bs _) (ClL.cons (Cl.int _ _) ClL.nil)) _, trivial⟩
end Go.Proofs.Ytbehegpahiefaaa.Pr

namespace Go.Proofs.Ytbehegpahiefaaa.Pr
set_option maxRecDepth 100000
set_option maxHeartbeats 80000000
open Go.Sym

structure CkI (l : List (List UInt8)) where
  i : Nat
  hi : i ≤ l.length
  h : ∀ s ∈ l.take i, ¬ Long s

theorem refChk {r : Req} (hl : r.names.length ≤ 1000000000000) : CallOK Try.prog 62 [r.av] [] 0 (Out (.int .i64 r.chk) [] 0) := by
  refine CallOK.fit (by decide) ?_
  refine callOK Try.call62 Try.func62 Try.ntmps62 rfl ?_
  conv => arg 4; whnf
  refine ⟨fun h => ?_, fun h => ?_⟩
  · simp only [Bool.cond_true_left, Bool.cond_false_right, Bool.or_eq_true, Bool.and_eq_true, Bool.not_eq_true', decide_eq_true_eq, beq_iff_eq, bne_iff_ne, u8s_length, Bool.not_eq_true, gt_iff_lt, ge_iff_le] at h
    (conv => arg 4; whnf); repeat (refine ⟨rfl, ?_⟩; conv => arg 4; whnf)
    have hc : r.chk = 16 := by rw [Req.chk, if_pos (by omega)]
    rw [hc]
    exact ⟨by decide, by (repeat' (first | with_reducible exact Le.refl _ _ | exact Le.bl | exact Le.lb | exact Le.nils | exact Le.nilsFull | exact Le.none | exact LeL.nil _ | refine LeL.cons ?_ ?_ | refine Le.tup ?_ | refine Le.agg ?_ | exact Le.refl _ _ | exact LeL.refl _ _)), trivial, (by (repeat' (first | with_reducible assumption | exact ClL.nil | exact Cl.int _ _ | exact Cl.bool _ | exact Cl.bl _ | exact Cl.bs _ | exact Cl.str _ | exact Cl.nils | exact Cl.nilp | exact Cl.rec _ | exact Cl.bat _ | exact Cl.recsV _ | exact Cl.strsV _ | exact Cl.intsV _ | exact Cl.req _ | exact Cl.rsp _ | exact Cl.reqA _ | exact Cl.rspA _ | exact Cl.batsV _ | exact Cl.getB _ | exact Cl.encA _ | exact Cl.firstA _ | refine ClL.cons ?_ ?_ | refine Cl.tup ?_ | refine Cl.agg ?_ | exact ClO.RO _ _)) : Cl _) _, trivial⟩
  · rw [← Bool.not_eq_true] at h; simp only [Bool.cond_true_left, Bool.cond_false_right, Bool.or_eq_true, Bool.and_eq_true, Bool.not_eq_true', decide_eq_true_eq, beq_iff_eq, bne_iff_ne, u8s_length, gt_iff_lt, ge_iff_le] at h
    (conv => arg 4; whnf); repeat (refine ⟨rfl, ?_⟩; conv => arg 4; whnf)
    refine ⟨fun h2 => ?_, fun h2 => ?_⟩
    · simp only [Bool.cond_true_left, Bool.cond_false_right, Bool.or_eq_true, Bool.and_eq_true, Bool.not_eq_true', decide_eq_true_eq, beq_iff_eq, bne_iff_ne, u8s_length, Bool.not_eq_true, gt_iff_lt, ge_iff_le] at h2
      (conv => arg 4; whnf); repeat (refine ⟨rfl, ?_⟩; conv => arg 4; whnf)
      have hc : r.chk = 1 := by rw [Req.chk, if_neg (by omega), if_pos (by omega)]
      rw [hc]
      exact ⟨by decide, by (repeat' (first | with_reducible exact Le.refl _ _ | exact Le.bl | exact Le.lb | exact Le.nils | exact Le.nilsFull | exact Le.none | exact LeL.nil _ | refine LeL.cons ?_ ?_ | refine Le.tup ?_ | refine Le.agg ?_ | exact Le.refl _ _ | exact LeL.refl _ _)), trivial, (by (repeat' (first | with_reducible assumption | exact ClL.nil | exact Cl.int _ _ | exact Cl.bool _ | exact Cl.bl _ | exact Cl.bs _ | exact Cl.str _ | exact Cl.nils | exact Cl.nilp | exact Cl.rec _ | exact Cl.bat _ | exact Cl.recsV _ | exact Cl.strsV _ | exact Cl.intsV _ | exact Cl.req _ | exact Cl.rsp _ | exact Cl.reqA _ | exact Cl.rspA _ | exact Cl.batsV _ | exact Cl.getB _ | exact Cl.encA _ | exact Cl.firstA _ | refine ClL.cons ?_ ?_ | refine Cl.tup ?_ | refine Cl.agg ?_ | exact ClO.RO _ _)) : Cl _) _, trivial⟩
    · rw [← Bool.not_eq_true] at h2; simp only [Bool.cond_true_left, Bool.cond_false_right, Bool.or_eq_true, Bool.and_eq_true, Bool.not_eq_true', decide_eq_true_eq, beq_iff_eq, bne_iff_ne, u8s_length, gt_iff_lt, ge_iff_le] at h2
      (conv => arg 4; whnf); repeat (refine ⟨rfl, ?_⟩; conv => arg 4; whnf)
      refine ⟨fun h3 => ?_, fun h3 => ?_⟩
      · rw [strs_length, u8s_length] at h3
        simp only [Bool.cond_true_left, Bool.cond_false_right, Bool.or_eq_true, Bool.and_eq_true, Bool.not_eq_true', decide_eq_true_eq, beq_iff_eq, bne_iff_ne, u8s_length, Bool.not_eq_true, gt_iff_lt, ge_iff_le] at h3
        (conv => arg 4; whnf); repeat (refine ⟨rfl, ?_⟩; conv => arg 4; whnf)
        have hb : r.big := by unfold Req.big Long; omega
        have hc : r.chk = 3 := by rw [Req.chk, if_neg (by omega), if_neg (by omega), if_pos hb]
        rw [hc]
        exact ⟨by decide, by (repeat' (first | with_reducible exact Le.refl _ _ | exact Le.bl | exact Le.lb | exact Le.nils | exact Le.nilsFull | exact Le.none | exact LeL.nil _ | refine LeL.cons ?_ ?_ | refine Le.tup ?_ | refine Le.agg ?_ | exact Le.refl _ _ | exact LeL.refl _ _)), trivial, (by (repeat' (first | with_reducible assumption | exact ClL.nil | exact Cl.int _ _ | exact Cl.bool _ | exact Cl.bl _ | exact Cl.bs _ | exact Cl.str _ | exact Cl.nils | exact Cl.nilp | exact Cl.rec _ | exact Cl.bat _ | exact Cl.recsV _ | exact Cl.strsV _ | exact Cl.intsV _ | exact Cl.req _ | exact Cl.rsp _ | exact Cl.reqA _ | exact Cl.rspA _ | exact Cl.batsV _ | exact Cl.getB _ | exact Cl.encA _ | exact Cl.firstA _ | refine ClL.cons ?_ ?_ | refine Cl.tup ?_ | refine Cl.agg ?_ | exact ClO.RO _ _)) : Cl _) _, trivial⟩
      · rw [strs_length, u8s_length] at h3
        rw [← Bool.not_eq_true] at h3; simp only [Bool.cond_true_left, Bool.cond_false_right, Bool.or_eq_true, Bool.and_eq_true, Bool.not_eq_true', decide_eq_true_eq, beq_iff_eq, bne_iff_ne, u8s_length, gt_iff_lt, ge_iff_le] at h3
        (conv => arg 4; whnf); repeat (refine ⟨rfl, ?_⟩; conv => arg 4; whnf)
        refine tri_loopG (ι := CkI r.names) (fun a => ⟨[(3, .int .i64 a.i), (1, .ptr 0 0)], [(0, reqO r)], 1, 71⟩) (fun a => r.names.length - a.i) ⟨0, Nat.zero_le _, by simp⟩ (WkG.of rfl rfl ⟨Le.refl _ _, Le.refl _ _, trivial⟩ ⟨⟨_, rfl, LeO.refl _ _⟩, trivial⟩ ⟨rfl, rfl, trivial⟩ ⟨⟨by decide, ClO.reqO _ _⟩, trivial⟩) ?_
        rintro ⟨i, hi, hh⟩
        dsimp only
        conv => arg 4; whnf
        refine ⟨fun h => ?_, fun h => ?_⟩
        · have h : i < r.names.length := by rw [strs_length] at h; simp at h; omega
          obtain ⟨x, hx⟩ : ∃ x, r.names[i]? = some x := ⟨_, List.getElem?_eq_getElem h⟩
          have ht : r.names.take (i + 1) = r.names.take i ++ [x] := by rw [List.take_add_one, hx]; rfl
          (conv => arg 4; whnf); repeat (refine ⟨rfl, ?_⟩; conv => arg 4; whnf)
          refine ⟨.str x, ⟨by omega, strs_get hx⟩, ?_⟩
          (conv => arg 4; whnf); repeat (refine ⟨rfl, ?_⟩; conv => arg 4; whnf)
          refine ⟨fun h4 => ?_, fun h4 => ?_⟩
          · have h4 : Long x := by unfold Long; simp at h4; omega
            (conv => arg 4; whnf); repeat (refine ⟨rfl, ?_⟩; conv => arg 4; whnf)
            have hb : r.big := by unfold Req.big; exact .inr (.inr (.inl ⟨x, List.mem_of_getElem? hx, h4⟩))
            have hc : r.chk = 3 := by rw [Req.chk, if_neg (by omega), if_neg (by omega), if_pos hb]
            rw [hc]
            exact ⟨by decide, by (repeat' (first | with_reducible exact Le.refl _ _ | exact Le.bl | exact Le.lb | exact Le.nils | exact Le.nilsFull | exact Le.none | exact LeL.nil _ | refine LeL.cons ?_ ?_ | refine Le.tup ?_ | refine Le.agg ?_ | exact Le.refl _ _ | exact LeL.refl _ _)), trivial, (by (repeat' (first | with_reducible assumption | exact ClL.nil | exact Cl.int _ _ | exact Cl.bool _ | exact Cl.bl _ | exact Cl.bs _ | exact Cl.str _ | exact Cl.nils | exact Cl.nilp | exact Cl.rec _ | exact Cl.bat _ | exact Cl.recsV _ | exact Cl.strsV _ | exact Cl.intsV _ | exact Cl.req _ | exact Cl.rsp _ | exact Cl.reqA _ | exact Cl.rspA _ | exact Cl.batsV _ | exact Cl.getB _ | exact Cl.encA _ | exact Cl.firstA _ | refine ClL.cons ?_ ?_ | refine Cl.tup ?_ | refine Cl.agg ?_ | exact ClO.RO _ _)) : Cl _) _, trivial⟩
          · have h4 : ¬ Long x := by unfold Long; simp at h4; omega
            (conv => arg 4; whnf); repeat (refine ⟨rfl, ?_⟩; conv => arg 4; whnf)
            refine ⟨⟨i + 1, by omega, fun s hs => ?_⟩, by show r.names.length - (i + 1) < r.names.length - i; omega, WkG.of rfl rfl ⟨Le.of_eq (succ_i64 (by omega)), Le.refl _ _, trivial⟩ ⟨⟨_, rfl, LeO.refl _ _⟩, trivial⟩ ⟨rfl, rfl, trivial⟩ ⟨⟨by decide, ClO.reqO _ _⟩, trivial⟩⟩
            rw [ht] at hs
            rcases List.mem_append.1 hs with hs | hs
            · exact hh s hs
            · rw [List.mem_singleton] at hs; subst hs; exact h4
        · have h : i = r.names.length := by rw [strs_length] at h; simp at h; omega
          rw [h, List.take_length] at hh
          conv => arg 4; whnf
          refine fin_exit ?_
          show holds _ _ _ _
          conv => arg 4; whnf
          have hb : ¬ r.big := by
            unfold Req.big
            rintro (h5 | h5 | ⟨s, hs, hl⟩ | h5)
            · unfold Long at h5; omega
            · omega
            · exact hh s hs hl
            · omega
          have hc : r.chk = 0 := by rw [Req.chk, if_neg (by omega), if_neg (by omega), if_neg hb]
          rw [hc]
          exact ⟨by decide, by (repeat' (first | with_reducible exact Le.refl _ _ | exact Le.bl | exact Le.lb | exact Le.nils | exact Le.nilsFull | exact Le.none | exact LeL.nil _ | refine LeL.cons ?_ ?_ | refine Le.tup ?_ | refine Le.agg ?_ | exact Le.refl _ _ | exact LeL.refl _ _)), trivial, (by (repeat' (first | with_reducible assumption | exact ClL.nil | exact Cl.int _ _ | exact Cl.bool _ | exact Cl.bl _ | exact Cl.bs _ | exact Cl.str _ | exact Cl.nils | exact Cl.nilp | exact Cl.rec _ | exact Cl.bat _ | exact Cl.recsV _ | exact Cl.strsV _ | exact Cl.intsV _ | exact Cl.req _ | exact Cl.rsp _ | exact Cl.reqA _ | exact Cl.rspA _ | exact Cl.batsV _ | exact Cl.getB _ | exact Cl.encA _ | exact Cl.firstA _ | refine ClL.cons ?_ ?_ | refine Cl.tup ?_ | refine Cl.agg ?_ | exact ClO.RO _ _)) : Cl _) _, trivial⟩

theorem refJoin {ls : List (List UInt8)} (hl : ls.length ≤ 1000000) (ht : ls.flatten.length ≤ 1000000000) : CallOK Try.prog 63 [.sl .none 0 (blsL ls)] [] 0 (NewSl 0 (u8s ls.flatten)) := by
  refine callOK Try.call63 Try.func63 Try.ntmps63 rfl ?_
  conv => arg 4; whnf
  refine tri_loopG (ι := CcJ ls) (fun a => ⟨[(4, .int .i64 a.i), (3, .sl (.tok 0 a.s) 0 (u8s (ls.take a.i).flatten)), (0, .sl .none 0 (blsL ls))], [(0, .tip a.s)], 1, 18⟩) (fun a => ls.length - a.i) ⟨0, 0, Nat.zero_le _⟩ (WkG.tok rfl rfl ⟨Le.refl _ _, Le.nilsTok rfl, Le.refl _ _, trivial⟩ ⟨⟨_, rfl, rfl⟩, trivial⟩ ⟨rfl, cut_ok rfl, Cl.sl (ClL.bls ls) _, trivial⟩ ⟨⟨by decide, rfl⟩, trivial⟩) ?_
  rintro ⟨i, s, hi⟩
  dsimp only
  conv => arg 4; whnf
  refine ⟨fun h => ?_, fun h => ?_⟩
  · have h : i < ls.length := by rw [bls_length] at h; simp at h; omega
    obtain ⟨x, hx⟩ : ∃ x, ls[i]? = some x := ⟨_, List.getElem?_eq_getElem h⟩
    have h1 := flat_take hx
    have h2 := flat_take_le ls (i + 1)
    have h3 : (ls.take (i + 1)).flatten.length = (ls.take i).flatten.length + x.length := by rw [h1, List.length_append]
    (conv => arg 4; whnf); repeat (refine ⟨rfl, ?_⟩; conv => arg 4; whnf)
    refine ⟨_, ⟨by omega, bls_get hx⟩, ?_⟩
    (conv => arg 4; whnf); repeat (refine ⟨rfl, ?_⟩; conv => arg 4; whnf)
    refine ⟨⟨rfl, sizeOk 1 rfl ?_⟩, ?_⟩
    · rw [List.length_append, u8s_length, u8s_length]; omega
    (conv => arg 4; whnf); repeat (refine ⟨rfl, ?_⟩; conv => arg 4; whnf)
    exact ⟨⟨i + 1, s + 1, by omega⟩, by show ls.length - (i + 1) < ls.length - i; omega, WkG.of rfl rfl ⟨Le.of_eq (succ_i64 (by omega)), Le.of_eq (congrArg (AV.sl _ 0) (by rw [h1, u8s_append])), Le.refl _ _, trivial⟩ ⟨⟨_, rfl, LeO.refl _ _⟩, trivial⟩ ⟨rfl, cut_ok rfl, Cl.sl (ClL.bls ls) _, trivial⟩ ⟨⟨by decide, rfl⟩, trivial⟩⟩
  · have h : i = ls.length := by rw [bls_length] at h; simp at h; omega
    subst h
    conv => arg 4; whnf
    refine fin_exit ?_
    show holds _ _ _ _
    conv => arg 4; whnf
    exact ⟨s, by rw [List.take_length], rfl, rfl⟩
end Go.Proofs.Ytbehegpahiefaaa.Pr

namespace Go.Proofs.Ytbehegpahiefaaa.Pr
set_option maxRecDepth 100000
set_option maxHeartbeats 80000000
open Go.Sym

theorem req_lens {r : Req} (hc : r.chk = 0) : (r.client.length ≤ 100 ∧ r.topic.length ≤ 100 ∧ r.group.length ≤ 100 ∧ r.member.length ≤ 100 ∧ r.names.length ≤ 30 ∧ r.data.length ≤ 65536) ∧ ∀ s ∈ r.names, ¬ Long s := by
  obtain ⟨-, -, -, -, hb⟩ := Req.chk_ok hc
  refine ⟨?_, fun s hs hl => hb (.inr (.inr (.inl ⟨s, hs, hl⟩)))⟩
  unfold Req.big Long at hb
  omega

def Req.headL (r : Req) : List (List UInt8) := [fixed r.kind.toNat 2, fixed r.corr.toNat 4, lenB r.client, lenB r.topic, put r.part, put r.off, put r.time, put r.max, lenB r.group, lenB r.member, put r.gen, put r.names.length]
theorem headL_le (h : Heap) (r : Req) : Le h (.sl .full 0 [.sl .full 0 (u8s (fixed r.kind.toNat (Int.toNat 2))), .sl .full 0 (u8s (fixed r.corr.toNat (Int.toNat 4))), bs (put r.client.length ++ r.client), bs (put r.topic.length ++ r.topic), bs (put r.part), bs (put r.off), bs (put r.time), bs (put r.max), bs (put r.group.length ++ r.group), bs (put r.member.length ++ r.member), bs (put r.gen), bs (put r.names.length)]) (.sl .none 0 (blsL r.headL)) :=
  Le.slL (LeL.cons Le.none (LeL.cons Le.none (LeL.refl _ _))) (fun h => (by cases h))
theorem refHeadJoin {r : Req} (c1 : 1 ≤ r.kind) (c3 : 0 ≤ r.corr) (ho : r.ok) (hl : r.client.length ≤ 100 ∧ r.topic.length ≤ 100 ∧ r.group.length ≤ 100 ∧ r.member.length ≤ 100 ∧ r.names.length ≤ 30) : CallOK Try.prog 63 [.sl .none 0 (blsL r.headL)] [] 0 (NewSl 0 (u8s r.head)) ∧ r.head.length ≤ 600 := by
  obtain ⟨k1, k2, k3, k4, k5, k6, k7⟩ := ho
  obtain ⟨l1, l2, l3, l4, l5⟩ := hl
  have hfl : r.headL.flatten = r.head := by simp [Req.head, Req.headL]
  have hhl : r.head.length ≤ 600 := by
    have p1 := lenB_len (l := r.client) (by omega)
    have p2 := lenB_len (l := r.topic) (by omega)
    have p3 := lenB_len (l := r.group) (by omega)
    have p4 := lenB_len (l := r.member) (by omega)
    have p5 := put_len (n := (r.names.length : Int)) (by unfold I64; omega)
    have p6 := put_len k3
    have p7 := put_len k4
    have p8 := put_len k5
    have p9 := put_len k6
    have p10 := put_len k7
    simp only [Req.head, List.length_append, fixed_len]; omega
  have cc := refJoin (ls := r.headL) (by simp [Req.headL]) (by rw [hfl]; omega)
  rw [hfl] at cc
  exact ⟨cc, hhl⟩

theorem refReqEnc {r : Req} (ho : r.ok) (hl : r.names.length ≤ 1000000000000) : CallOK Try.prog 35 [r.av] [] 0 (Out (reqA r) [] 0) := by
  obtain ⟨k1, k2, k3, k4, k5, k6, k7⟩ := ho
  refine CallOK.fit (by decide) ?_
  refine callOK Try.call35 Try.func35 Try.ntmps35 rfl ?_
  conv => arg 4; whnf
  refine call0 (refChk hl) (by (repeat' (first | with_reducible assumption | exact ClL.nil | exact Cl.int _ _ | exact Cl.bool _ | exact Cl.bl _ | exact Cl.bs _ | exact Cl.str _ | exact Cl.nils | exact Cl.nilp | exact Cl.rec _ | exact Cl.bat _ | exact Cl.recsV _ | exact Cl.strsV _ | exact Cl.intsV _ | exact Cl.req _ | exact Cl.rsp _ | exact Cl.reqA _ | exact Cl.rspA _ | exact Cl.batsV _ | exact Cl.getB _ | exact Cl.encA _ | exact Cl.firstA _ | refine ClL.cons ?_ ?_ | refine Cl.tup ?_ | refine Cl.agg ?_ | exact ClO.RO _ _))) (by (repeat' (first | with_reducible assumption | exact ClL.nil | exact Cl.int _ _ | exact Cl.bool _ | exact Cl.bl _ | exact Cl.bs _ | exact Cl.str _ | exact Cl.nils | exact Cl.nilp | exact Cl.rec _ | exact Cl.bat _ | exact Cl.recsV _ | exact Cl.strsV _ | exact Cl.intsV _ | exact Cl.req _ | exact Cl.rsp _ | exact Cl.reqA _ | exact Cl.rspA _ | exact Cl.batsV _ | exact Cl.getB _ | exact Cl.encA _ | exact Cl.firstA _ | refine ClL.cons ?_ ?_ | refine Cl.tup ?_ | refine Cl.agg ?_ | exact ClO.RO _ _))) ?_
  (conv => arg 4; whnf); repeat (refine ⟨rfl, ?_⟩; conv => arg 4; whnf)
  refine ⟨fun h => ?_, fun h => ?_⟩
  · have h : r.chk ≠ 0 := by simpa using h
    (conv => arg 4; whnf); repeat (refine ⟨rfl, ?_⟩; conv => arg 4; whnf)
    rw [reqA, r.out_no h]
    exact ⟨by decide, by (repeat' (first | with_reducible exact Le.refl _ _ | exact Le.bl | exact Le.lb | exact Le.nils | exact Le.nilsFull | exact Le.none | exact LeL.nil _ | refine LeL.cons ?_ ?_ | refine Le.tup ?_ | refine Le.agg ?_ | exact Le.refl _ _ | exact LeL.refl _ _)), trivial, (by (repeat' (first | with_reducible assumption | exact ClL.nil | exact Cl.int _ _ | exact Cl.bool _ | exact Cl.bl _ | exact Cl.bs _ | exact Cl.str _ | exact Cl.nils | exact Cl.nilp | exact Cl.rec _ | exact Cl.bat _ | exact Cl.recsV _ | exact Cl.strsV _ | exact Cl.intsV _ | exact Cl.req _ | exact Cl.rsp _ | exact Cl.reqA _ | exact Cl.rspA _ | exact Cl.batsV _ | exact Cl.getB _ | exact Cl.encA _ | exact Cl.firstA _ | refine ClL.cons ?_ ?_ | refine Cl.tup ?_ | refine Cl.agg ?_ | exact ClO.RO _ _)) : Cl _) _, trivial⟩
  · have hc : r.chk = 0 := by simpa using h
    obtain ⟨⟨l1, l2, l3, l4, l5, l6⟩, hnm⟩ := req_lens hc
    obtain ⟨c1, c2, c3, c4, -⟩ := Req.chk_ok hc
    rw [reqA, r.out_yes hc, hc]
    have i5 : I64 (r.names.length : Int) := by unfold I64; omega
    have f1 : Fits r.kind 2 := fits2 (by omega) (by omega)
    have f2 : Fits r.corr 4 := fits4 (by omega) (by omega)
    (conv => arg 4; whnf); repeat (refine ⟨rfl, ?_⟩; conv => arg 4; whnf)
    refine call0 (refFixedF' k1 f1) (by (repeat' (first | with_reducible assumption | exact ClL.nil | exact Cl.int _ _ | exact Cl.bool _ | exact Cl.bl _ | exact Cl.bs _ | exact Cl.str _ | exact Cl.nils | exact Cl.nilp | exact Cl.rec _ | exact Cl.bat _ | exact Cl.recsV _ | exact Cl.strsV _ | exact Cl.intsV _ | exact Cl.req _ | exact Cl.rsp _ | exact Cl.reqA _ | exact Cl.rspA _ | exact Cl.batsV _ | exact Cl.getB _ | exact Cl.encA _ | exact Cl.firstA _ | refine ClL.cons ?_ ?_ | refine Cl.tup ?_ | refine Cl.agg ?_ | exact ClO.RO _ _))) (Cl.slFull (ClL.u8s _)) ?_
    (conv => arg 4; whnf); repeat (refine ⟨rfl, ?_⟩; conv => arg 4; whnf)
    refine call0 (refFixedF' k2 f2) (by (repeat' (first | with_reducible assumption | exact ClL.nil | exact Cl.int _ _ | exact Cl.bool _ | exact Cl.bl _ | exact Cl.bs _ | exact Cl.str _ | exact Cl.nils | exact Cl.nilp | exact Cl.rec _ | exact Cl.bat _ | exact Cl.recsV _ | exact Cl.strsV _ | exact Cl.intsV _ | exact Cl.req _ | exact Cl.rsp _ | exact Cl.reqA _ | exact Cl.rspA _ | exact Cl.batsV _ | exact Cl.getB _ | exact Cl.encA _ | exact Cl.firstA _ | refine ClL.cons ?_ ?_ | refine Cl.tup ?_ | refine Cl.agg ?_ | exact ClO.RO _ _))) (Cl.slFull (ClL.u8s _)) ?_
    (conv => arg 4; whnf); repeat (refine ⟨rfl, ?_⟩; conv => arg 4; whnf)
    refine call0 (refText (b := r.client) (by omega)) (by (repeat' (first | with_reducible assumption | exact ClL.nil | exact Cl.int _ _ | exact Cl.bool _ | exact Cl.bl _ | exact Cl.bs _ | exact Cl.str _ | exact Cl.nils | exact Cl.nilp | exact Cl.rec _ | exact Cl.bat _ | exact Cl.recsV _ | exact Cl.strsV _ | exact Cl.intsV _ | exact Cl.req _ | exact Cl.rsp _ | exact Cl.reqA _ | exact Cl.rspA _ | exact Cl.batsV _ | exact Cl.getB _ | exact Cl.encA _ | exact Cl.firstA _ | refine ClL.cons ?_ ?_ | refine Cl.tup ?_ | refine Cl.agg ?_ | exact ClO.RO _ _))) (by (repeat' (first | with_reducible assumption | exact ClL.nil | exact Cl.int _ _ | exact Cl.bool _ | exact Cl.bl _ | exact Cl.bs _ | exact Cl.str _ | exact Cl.nils | exact Cl.nilp | exact Cl.rec _ | exact Cl.bat _ | exact Cl.recsV _ | exact Cl.strsV _ | exact Cl.intsV _ | exact Cl.req _ | exact Cl.rsp _ | exact Cl.reqA _ | exact Cl.rspA _ | exact Cl.batsV _ | exact Cl.getB _ | exact Cl.encA _ | exact Cl.firstA _ | refine ClL.cons ?_ ?_ | refine Cl.tup ?_ | refine Cl.agg ?_ | exact ClO.RO _ _))) ?_
    (conv => arg 4; whnf); repeat (refine ⟨rfl, ?_⟩; conv => arg 4; whnf)
    refine call0 (refText (b := r.topic) (by omega)) (by (repeat' (first | with_reducible assumption | exact ClL.nil | exact Cl.int _ _ | exact Cl.bool _ | exact Cl.bl _ | exact Cl.bs _ | exact Cl.str _ | exact Cl.nils | exact Cl.nilp | exact Cl.rec _ | exact Cl.bat _ | exact Cl.recsV _ | exact Cl.strsV _ | exact Cl.intsV _ | exact Cl.req _ | exact Cl.rsp _ | exact Cl.reqA _ | exact Cl.rspA _ | exact Cl.batsV _ | exact Cl.getB _ | exact Cl.encA _ | exact Cl.firstA _ | refine ClL.cons ?_ ?_ | refine Cl.tup ?_ | refine Cl.agg ?_ | exact ClO.RO _ _))) (by (repeat' (first | with_reducible assumption | exact ClL.nil | exact Cl.int _ _ | exact Cl.bool _ | exact Cl.bl _ | exact Cl.bs _ | exact Cl.str _ | exact Cl.nils | exact Cl.nilp | exact Cl.rec _ | exact Cl.bat _ | exact Cl.recsV _ | exact Cl.strsV _ | exact Cl.intsV _ | exact Cl.req _ | exact Cl.rsp _ | exact Cl.reqA _ | exact Cl.rspA _ | exact Cl.batsV _ | exact Cl.getB _ | exact Cl.encA _ | exact Cl.firstA _ | refine ClL.cons ?_ ?_ | refine Cl.tup ?_ | refine Cl.agg ?_ | exact ClO.RO _ _))) ?_
    (conv => arg 4; whnf); repeat (refine ⟨rfl, ?_⟩; conv => arg 4; whnf)
    refine call0 (refPut k3) (by (repeat' (first | with_reducible assumption | exact ClL.nil | exact Cl.int _ _ | exact Cl.bool _ | exact Cl.bl _ | exact Cl.bs _ | exact Cl.str _ | exact Cl.nils | exact Cl.nilp | exact Cl.rec _ | exact Cl.bat _ | exact Cl.recsV _ | exact Cl.strsV _ | exact Cl.intsV _ | exact Cl.req _ | exact Cl.rsp _ | exact Cl.reqA _ | exact Cl.rspA _ | exact Cl.batsV _ | exact Cl.getB _ | exact Cl.encA _ | exact Cl.firstA _ | refine ClL.cons ?_ ?_ | refine Cl.tup ?_ | refine Cl.agg ?_ | exact ClO.RO _ _))) (by (repeat' (first | with_reducible assumption | exact ClL.nil | exact Cl.int _ _ | exact Cl.bool _ | exact Cl.bl _ | exact Cl.bs _ | exact Cl.str _ | exact Cl.nils | exact Cl.nilp | exact Cl.rec _ | exact Cl.bat _ | exact Cl.recsV _ | exact Cl.strsV _ | exact Cl.intsV _ | exact Cl.req _ | exact Cl.rsp _ | exact Cl.reqA _ | exact Cl.rspA _ | exact Cl.batsV _ | exact Cl.getB _ | exact Cl.encA _ | exact Cl.firstA _ | refine ClL.cons ?_ ?_ | refine Cl.tup ?_ | refine Cl.agg ?_ | exact ClO.RO _ _))) ?_
    (conv => arg 4; whnf); repeat (refine ⟨rfl, ?_⟩; conv => arg 4; whnf)
    refine call0 (refPut k4) (by (repeat' (first | with_reducible assumption | exact ClL.nil | exact Cl.int _ _ | exact Cl.bool _ | exact Cl.bl _ | exact Cl.bs _ | exact Cl.str _ | exact Cl.nils | exact Cl.nilp | exact Cl.rec _ | exact Cl.bat _ | exact Cl.recsV _ | exact Cl.strsV _ | exact Cl.intsV _ | exact Cl.req _ | exact Cl.rsp _ | exact Cl.reqA _ | exact Cl.rspA _ | exact Cl.batsV _ | exact Cl.getB _ | exact Cl.encA _ | exact Cl.firstA _ | refine ClL.cons ?_ ?_ | refine Cl.tup ?_ | refine Cl.agg ?_ | exact ClO.RO _ _))) (by (repeat' (first | with_reducible assumption | exact ClL.nil | exact Cl.int _ _ | exact Cl.bool _ | exact Cl.bl _ | exact Cl.bs _ | exact Cl.str _ | exact Cl.nils | exact Cl.nilp | exact Cl.rec _ | exact Cl.bat _ | exact Cl.recsV _ | exact Cl.strsV _ | exact Cl.intsV _ | exact Cl.req _ | exact Cl.rsp _ | exact Cl.reqA _ | exact Cl.rspA _ | exact Cl.batsV _ | exact Cl.getB _ | exact Cl.encA _ | exact Cl.firstA _ | refine ClL.cons ?_ ?_ | refine Cl.tup ?_ | refine Cl.agg ?_ | exact ClO.RO _ _))) ?_
    (conv => arg 4; whnf); repeat (refine ⟨rfl, ?_⟩; conv => arg 4; whnf)
    refine call0 (refPut k5) (by (repeat' (first | with_reducible assumption | exact ClL.nil | exact Cl.int _ _ | exact Cl.bool _ | exact Cl.bl _ | exact Cl.bs _ | exact Cl.str _ | exact Cl.nils | exact Cl.nilp | exact Cl.rec _ | exact Cl.bat _ | exact Cl.recsV _ | exact Cl.strsV _ | exact Cl.intsV _ | exact Cl.req _ | exact Cl.rsp _ | exact Cl.reqA _ | exact Cl.rspA _ | exact Cl.batsV _ | exact Cl.getB _ | exact Cl.encA _ | exact Cl.firstA _ | refine ClL.cons ?_ ?_ | refine Cl.tup ?_ | refine Cl.agg ?_ | exact ClO.RO _ _))) (by (repeat' (first | with_reducible assumption | exact ClL.nil | exact Cl.int _ _ | exact Cl.bool _ | exact Cl.bl _ | exact Cl.bs _ | exact Cl.str _ | exact Cl.nils | exact Cl.nilp | exact Cl.rec _ | exact Cl.bat _ | exact Cl.recsV _ | exact Cl.strsV _ | exact Cl.intsV _ | exact Cl.req _ | exact Cl.rsp _ | exact Cl.reqA _ | exact Cl.rspA _ | exact Cl.batsV _ | exact Cl.getB _ | exact Cl.encA _ | exact Cl.firstA _ | refine ClL.cons ?_ ?_ | refine Cl.tup ?_ | refine Cl.agg ?_ | exact ClO.RO _ _))) ?_
    (conv => arg 4; whnf); repeat (refine ⟨rfl, ?_⟩; conv => arg 4; whnf)
    refine call0 (refPut k6) (by (repeat' (first | with_reducible assumption | exact ClL.nil | exact Cl.int _ _ | exact Cl.bool _ | exact Cl.bl _ | exact Cl.bs _ | exact Cl.str _ | exact Cl.nils | exact Cl.nilp | exact Cl.rec _ | exact Cl.bat _ | exact Cl.recsV _ | exact Cl.strsV _ | exact Cl.intsV _ | exact Cl.req _ | exact Cl.rsp _ | exact Cl.reqA _ | exact Cl.rspA _ | exact Cl.batsV _ | exact Cl.getB _ | exact Cl.encA _ | exact Cl.firstA _ | refine ClL.cons ?_ ?_ | refine Cl.tup ?_ | refine Cl.agg ?_ | exact ClO.RO _ _))) (by (repeat' (first | with_reducible assumption | exact ClL.nil | exact Cl.int _ _ | exact Cl.bool _ | exact Cl.bl _ | exact Cl.bs _ | exact Cl.str _ | exact Cl.nils | exact Cl.nilp | exact Cl.rec _ | exact Cl.bat _ | exact Cl.recsV _ | exact Cl.strsV _ | exact Cl.intsV _ | exact Cl.req _ | exact Cl.rsp _ | exact Cl.reqA _ | exact Cl.rspA _ | exact Cl.batsV _ | exact Cl.getB _ | exact Cl.encA _ | exact Cl.firstA _ | refine ClL.cons ?_ ?_ | refine Cl.tup ?_ | refine Cl.agg ?_ | exact ClO.RO _ _))) ?_
    (conv => arg 4; whnf); repeat (refine ⟨rfl, ?_⟩; conv => arg 4; whnf)
    refine call0 (refText (b := r.group) (by omega)) (by (repeat' (first | with_reducible assumption | exact ClL.nil | exact Cl.int _ _ | exact Cl.bool _ | exact Cl.bl _ | exact Cl.bs _ | exact Cl.str _ | exact Cl.nils | exact Cl.nilp | exact Cl.rec _ | exact Cl.bat _ | exact Cl.recsV _ | exact Cl.strsV _ | exact Cl.intsV _ | exact Cl.req _ | exact Cl.rsp _ | exact Cl.reqA _ | exact Cl.rspA _ | exact Cl.batsV _ | exact Cl.getB _ | exact Cl.encA _ | exact Cl.firstA _ | refine ClL.cons ?_ ?_ | refine Cl.tup ?_ | refine Cl.agg ?_ | exact ClO.RO _ _))) (by (repeat' (first | with_reducible assumption | exact ClL.nil | exact Cl.int _ _ | exact Cl.bool _ | exact Cl.bl _ | exact Cl.bs _ | exact Cl.str _ | exact Cl.nils | exact Cl.nilp | exact Cl.rec _ | exact Cl.bat _ | exact Cl.recsV _ | exact Cl.strsV _ | exact Cl.intsV _ | exact Cl.req _ | exact Cl.rsp _ | exact Cl.reqA _ | exact Cl.rspA _ | exact Cl.batsV _ | exact Cl.getB _ | exact Cl.encA _ | exact Cl.firstA _ | refine ClL.cons ?_ ?_ | refine Cl.tup ?_ | refine Cl.agg ?_ | exact ClO.RO _ _))) ?_
    (conv => arg 4; whnf); repeat (refine ⟨rfl, ?_⟩; conv => arg 4; whnf)
    refine call0 (refText (b := r.member) (by omega)) (by (repeat' (first | with_reducible assumption | exact ClL.nil | exact Cl.int _ _ | exact Cl.bool _ | exact Cl.bl _ | exact Cl.bs _ | exact Cl.str _ | exact Cl.nils | exact Cl.nilp | exact Cl.rec _ | exact Cl.bat _ | exact Cl.recsV _ | exact Cl.strsV _ | exact Cl.intsV _ | exact Cl.req _ | exact Cl.rsp _ | exact Cl.reqA _ | exact Cl.rspA _ | exact Cl.batsV _ | exact Cl.getB _ | exact Cl.encA _ | exact Cl.firstA _ | refine ClL.cons ?_ ?_ | refine Cl.tup ?_ | refine Cl.agg ?_ | exact ClO.RO _ _))) (by (repeat' (first | with_reducible assumption | exact ClL.nil | exact Cl.int _ _ | exact Cl.bool _ | exact Cl.bl _ | exact Cl.bs _ | exact Cl.str _ | exact Cl.nils | exact Cl.nilp | exact Cl.rec _ | exact Cl.bat _ | exact Cl.recsV _ | exact Cl.strsV _ | exact Cl.intsV _ | exact Cl.req _ | exact Cl.rsp _ | exact Cl.reqA _ | exact Cl.rspA _ | exact Cl.batsV _ | exact Cl.getB _ | exact Cl.encA _ | exact Cl.firstA _ | refine ClL.cons ?_ ?_ | refine Cl.tup ?_ | refine Cl.agg ?_ | exact ClO.RO _ _))) ?_
    (conv => arg 4; whnf); repeat (refine ⟨rfl, ?_⟩; conv => arg 4; whnf)
    refine call0 (refPut k7) (by (repeat' (first | with_reducible assumption | exact ClL.nil | exact Cl.int _ _ | exact Cl.bool _ | exact Cl.bl _ | exact Cl.bs _ | exact Cl.str _ | exact Cl.nils | exact Cl.nilp | exact Cl.rec _ | exact Cl.bat _ | exact Cl.recsV _ | exact Cl.strsV _ | exact Cl.intsV _ | exact Cl.req _ | exact Cl.rsp _ | exact Cl.reqA _ | exact Cl.rspA _ | exact Cl.batsV _ | exact Cl.getB _ | exact Cl.encA _ | exact Cl.firstA _ | refine ClL.cons ?_ ?_ | refine Cl.tup ?_ | refine Cl.agg ?_ | exact ClO.RO _ _))) (by (repeat' (first | with_reducible assumption | exact ClL.nil | exact Cl.int _ _ | exact Cl.bool _ | exact Cl.bl _ | exact Cl.bs _ | exact Cl.str _ | exact Cl.nils | exact Cl.nilp | exact Cl.rec _ | exact Cl.bat _ | exact Cl.recsV _ | exact Cl.strsV _ | exact Cl.intsV _ | exact Cl.req _ | exact Cl.rsp _ | exact Cl.reqA _ | exact Cl.rspA _ | exact Cl.batsV _ | exact Cl.getB _ | exact Cl.encA _ | exact Cl.firstA _ | refine ClL.cons ?_ ?_ | refine Cl.tup ?_ | refine Cl.agg ?_ | exact ClO.RO _ _))) ?_
    (conv => arg 4; whnf); repeat (refine ⟨rfl, ?_⟩; conv => arg 4; whnf)
    refine holds_args (args' := [.int .i64 r.names.length]) ⟨Le.of_eq (congrArg (fun n : Nat => AV.int .i64 n) (strs_length _)), trivial⟩ ?_
    refine call0 (refPut i5) (by (repeat' (first | with_reducible assumption | exact ClL.nil | exact Cl.int _ _ | exact Cl.bool _ | exact Cl.bl _ | exact Cl.bs _ | exact Cl.str _ | exact Cl.nils | exact Cl.nilp | exact Cl.rec _ | exact Cl.bat _ | exact Cl.recsV _ | exact Cl.strsV _ | exact Cl.intsV _ | exact Cl.req _ | exact Cl.rsp _ | exact Cl.reqA _ | exact Cl.rspA _ | exact Cl.batsV _ | exact Cl.getB _ | exact Cl.encA _ | exact Cl.firstA _ | refine ClL.cons ?_ ?_ | refine Cl.tup ?_ | refine Cl.agg ?_ | exact ClO.RO _ _))) (by (repeat' (first | with_reducible assumption | exact ClL.nil | exact Cl.int _ _ | exact Cl.bool _ | exact Cl.bl _ | exact Cl.bs _ | exact Cl.str _ | exact Cl.nils | exact Cl.nilp | exact Cl.rec _ | exact Cl.bat _ | exact Cl.recsV _ | exact Cl.strsV _ | exact Cl.intsV _ | exact Cl.req _ | exact Cl.rsp _ | exact Cl.reqA _ | exact Cl.rspA _ | exact Cl.batsV _ | exact Cl.getB _ | exact Cl.encA _ | exact Cl.firstA _ | refine ClL.cons ?_ ?_ | refine Cl.tup ?_ | refine Cl.agg ?_ | exact ClO.RO _ _))) ?_
    (conv => arg 4; whnf); repeat (refine ⟨rfl, ?_⟩; conv => arg 4; whnf)
    have cc := refHeadJoin c1 c3 ⟨k1, k2, k3, k4, k5, k6, k7⟩ ⟨l1, l2, l3, l4, l5⟩
    refine holds_args (args' := [.sl .none 0 (blsL r.headL)]) ⟨headL_le _ _, trivial⟩ ?_
    refine callT cc.1 (ClL.cons (Cl.sl (ClL.bls _)) ClL.nil) (ClL.u8s _) fun s8 => ?_
    (conv => arg 4; whnf); repeat (refine ⟨rfl, ?_⟩; conv => arg 4; whnf)
    have hhl := cc.2
    refine tri_loopG (ι := NmI r.names) (fun a => ⟨[(6, .int .i64 a.i), (5, .sl (.tok 1 a.s) 0 (u8s (r.head ++ textsB (r.names.take a.i)))), (1, .ptr 0 0)], [(1, .tip a.s), (0, reqO r)], 2, 71⟩) (fun a => r.names.length - a.i) ⟨0, s8, Nat.zero_le _⟩ (WkG.of rfl rfl ⟨Le.refl _ _, Le.of_eq (congrArg (AV.sl _ 0) (by simp [textsB])), Le.refl _ _, trivial⟩ ⟨⟨_, rfl, LeO.refl _ _⟩, ⟨_, rfl, LeO.refl _ _⟩, trivial⟩ ⟨rfl, cut_ok rfl, rfl, trivial⟩ ⟨⟨by decide, rfl⟩, ⟨by decide, ClO.reqO _ _⟩, trivial⟩) ?_
    rintro ⟨i, s, hi⟩
    dsimp only
    have htl := textsB_len (l := r.names.take i) fun s hs => hnm s (List.mem_of_mem_take hs)
    rw [List.length_take] at htl
    conv => arg 4; whnf
    refine ⟨fun h => ?_, fun h => ?_⟩
    · have h : i < r.names.length := by rw [strs_length] at h; simp at h; omega
      obtain ⟨x, hx⟩ : ∃ x, r.names[i]? = some x := ⟨_, List.getElem?_eq_getElem h⟩
      have hxl := hnm x (List.mem_of_getElem? hx)
      unfold Long at hxl
      have hxp := put_len (n := (x.length : Int)) (by unfold I64; omega)
      (conv => arg 4; whnf); repeat (refine ⟨rfl, ?_⟩; conv => arg 4; whnf)
      refine ⟨.str x, ⟨by omega, strs_get hx⟩, ?_⟩
      (conv => arg 4; whnf); repeat (refine ⟨rfl, ?_⟩; conv => arg 4; whnf)
      refine call0 (refText (b := x) (by omega)) (by (repeat' (first | with_reducible assumption | exact ClL.nil | exact Cl.int _ _ | exact Cl.bool _ | exact Cl.bl _ | exact Cl.bs _ | exact Cl.str _ | exact Cl.nils | exact Cl.nilp | exact Cl.rec _ | exact Cl.bat _ | exact Cl.recsV _ | exact Cl.strsV _ | exact Cl.intsV _ | exact Cl.req _ | exact Cl.rsp _ | exact Cl.reqA _ | exact Cl.rspA _ | exact Cl.batsV _ | exact Cl.getB _ | exact Cl.encA _ | exact Cl.firstA _ | refine ClL.cons ?_ ?_ | refine Cl.tup ?_ | refine Cl.agg ?_ | exact ClO.RO _ _))) (by (repeat' (first | with_reducible assumption | exact ClL.nil | exact Cl.int _ _ | exact Cl.bool _ | exact Cl.bl _ | exact Cl.bs _ | exact Cl.str _ | exact Cl.nils | exact Cl.nilp | exact Cl.rec _ | exact Cl.bat _ | exact Cl.recsV _ | exact Cl.strsV _ | exact Cl.intsV _ | exact Cl.req _ | exact Cl.rsp _ | exact Cl.reqA _ | exact Cl.rspA _ | exact Cl.batsV _ | exact Cl.getB _ | exact Cl.encA _ | exact Cl.firstA _ | refine ClL.cons ?_ ?_ | refine Cl.tup ?_ | refine Cl.agg ?_ | exact ClO.RO _ _))) ?_
      (conv => arg 4; whnf); repeat (refine ⟨rfl, ?_⟩; conv => arg 4; whnf)
      refine ⟨⟨rfl, sizeOk 1 rfl ?_⟩, ?_⟩
      · simp only [List.length_append, u8s_length]; omega
      (conv => arg 4; whnf); repeat (refine ⟨rfl, ?_⟩; conv => arg 4; whnf)
      exact ⟨⟨i + 1, s + 1, by omega⟩, by show r.names.length - (i + 1) < r.names.length - i; omega, WkG.of rfl rfl ⟨Le.of_eq (succ_i64 (by omega)), Le.of_eq (congrArg (AV.sl _ 0) (by rw [textsB_take hx, lenB]; simp only [u8s_append, List.append_assoc])), Le.refl _ _, trivial⟩ ⟨⟨_, rfl, LeO.refl _ _⟩, ⟨_, rfl, LeO.refl _ _⟩, trivial⟩ ⟨rfl, cut_ok rfl, rfl, trivial⟩ ⟨⟨by decide, rfl⟩, ⟨by decide, ClO.reqO _ _⟩, trivial⟩⟩
    · have h : i = r.names.length := by rw [strs_length] at h; simp at h; omega
      subst h
      rw [show r.names.take r.names.length = r.names from List.take_length]
      rw [List.take_length] at htl
      have hxp := put_len (n := (r.data.length : Int)) (by unfold I64; omega)
      conv => arg 4; whnf
      refine fin_exit ?_
      show holds _ _ _ _
      conv => arg 4; whnf
      refine call0 (refBytes (b := r.data) (by omega)) (by (repeat' (first | with_reducible assumption | exact ClL.nil | exact Cl.int _ _ | exact Cl.bool _ | exact Cl.bl _ | exact Cl.bs _ | exact Cl.str _ | exact Cl.nils | exact Cl.nilp | exact Cl.rec _ | exact Cl.bat _ | exact Cl.recsV _ | exact Cl.strsV _ | exact Cl.intsV _ | exact Cl.req _ | exact Cl.rsp _ | exact Cl.reqA _ | exact Cl.rspA _ | exact Cl.batsV _ | exact Cl.getB _ | exact Cl.encA _ | exact Cl.firstA _ | refine ClL.cons ?_ ?_ | refine Cl.tup ?_ | refine Cl.agg ?_ | exact ClO.RO _ _))) (by (repeat' (first | with_reducible assumption | exact ClL.nil | exact Cl.int _ _ | exact Cl.bool _ | exact Cl.bl _ | exact Cl.bs _ | exact Cl.str _ | exact Cl.nils | exact Cl.nilp | exact Cl.rec _ | exact Cl.bat _ | exact Cl.recsV _ | exact Cl.strsV _ | exact Cl.intsV _ | exact Cl.req _ | exact Cl.rsp _ | exact Cl.reqA _ | exact Cl.rspA _ | exact Cl.batsV _ | exact Cl.getB _ | exact Cl.encA _ | exact Cl.firstA _ | refine ClL.cons ?_ ?_ | refine Cl.tup ?_ | refine Cl.agg ?_ | exact ClO.RO _ _))) ?_
      (conv => arg 4; whnf); repeat (refine ⟨rfl, ?_⟩; conv => arg 4; whnf)
      refine ⟨⟨rfl, sizeOk 1 rfl ?_⟩, ?_⟩
      · simp only [List.length_append, u8s_length]; omega
      (conv => arg 4; whnf); repeat (refine ⟨rfl, ?_⟩; conv => arg 4; whnf)
      refine ⟨by decide, Le.tup (LeL.cons (Le.noneOf ?_) (LeL.refl _ _)), trivial, Cl.tup (ClL.cons (Cl.bs _) (ClL.cons (Cl.int _ _) ClL.nil)) _, trivial⟩
      rw [← u8s_append]
      rfl
end Go.Proofs.Ytbehegpahiefaaa.Pr

namespace Go.Proofs.Ytbehegpahiefaaa.Pr
set_option maxRecDepth 100000
set_option maxHeartbeats 80000000
open Go.Sym

theorem rTextE {b : List UInt8} {e most : Int} (hb : b.length ≤ 100000000000000) : CallOK Try.prog 26 [.ptr 0 0, .int .i64 most] (RH b e) 1
    (fun a h m => ∃ x : ByX, (bytesR b e most = (x.v, x.r, x.e) ∧ x.r <:+ b ∧ x.v.length ≤ b.length) ∧ Out (.str x.v) [(0, RO x.r x.e)] 1 a h m) :=
  (rText hb).mono fun _ _ _ h => ⟨⟨_, _, _⟩, ⟨rfl, bytesR_suf b e most, bytesR_len b e most⟩, h⟩
theorem rErrE {b : List UInt8} {e : Int} : CallOK Try.prog 28 [.ptr 0 0] [(0, RO b e)] 1 (Out (.int .i64 e) [(0, RO b e)] 1) := rErr

theorem refNum {b : List UInt8} {e : Int} (hb : b.length ≤ 100000000000000) : CallOK Try.prog 68 [.ptr 0 0] (RH b e) 1
    (fun a h m => ∃ x : FxX, (numR b e = (x.v, x.r, x.e) ∧ x.r <:+ b) ∧ Out (.int .i64 x.v) [(0, RO x.r x.e)] 1 a h m) := by
  refine CallOK.mono (K := Out (.int .i64 (numR b e).1) (RH (numR b e).2.1 (numR b e).2.2) 1) ?_ fun _ _ _ h => ⟨⟨_, _, _⟩, ⟨rfl, numR_suf b e⟩, h⟩
  refine callOK Try.call68 Try.func68 Try.ntmps68 rfl ?_
  have c := refGet hb
  unfold getB at c
  unfold numR
  conv => arg 4; whnf
  refine ⟨fun h => ?_, fun h => ?_⟩
  · have h : e ≠ 0 := by simpa using h
    rw [if_pos h]
    (conv => arg 4; whnf); repeat (refine ⟨rfl, ?_⟩; conv => arg 4; whnf)
    exact ⟨rfl, rfl, rfl⟩
  · have h : e = 0 := by simpa using h
    subst h
    rw [if_neg (by simp)]
    (conv => arg 4; whnf); repeat (refine ⟨rfl, ?_⟩; conv => arg 4; whnf)
    cases hg : getL 0 0 b with
    | none =>
      rw [hg] at c
      refine call0 c (by (repeat' (first | with_reducible assumption | exact ClL.nil | exact Cl.int _ _ | exact Cl.bool _ | exact Cl.bl _ | exact Cl.bs _ | exact Cl.str _ | exact Cl.nils | exact Cl.nilp | exact Cl.rec _ | exact Cl.bat _ | exact Cl.recsV _ | exact Cl.strsV _ | exact Cl.intsV _ | exact Cl.req _ | exact Cl.rsp _ | exact Cl.reqA _ | exact Cl.rspA _ | exact Cl.batsV _ | exact Cl.getB _ | exact Cl.encA _ | exact Cl.firstA _ | refine ClL.cons ?_ ?_ | refine Cl.tup ?_ | refine Cl.agg ?_ | exact ClO.RO _ _))) (by (repeat' (first | with_reducible assumption | exact ClL.nil | exact Cl.int _ _ | exact Cl.bool _ | exact Cl.bl _ | exact Cl.bs _ | exact Cl.str _ | exact Cl.nils | exact Cl.nilp | exact Cl.rec _ | exact Cl.bat _ | exact Cl.recsV _ | exact Cl.strsV _ | exact Cl.intsV _ | exact Cl.req _ | exact Cl.rsp _ | exact Cl.reqA _ | exact Cl.rspA _ | exact Cl.batsV _ | exact Cl.getB _ | exact Cl.encA _ | exact Cl.firstA _ | refine ClL.cons ?_ ?_ | refine Cl.tup ?_ | refine Cl.agg ?_ | exact ClO.RO _ _))) ?_
      (conv => arg 4; whnf); repeat (refine ⟨rfl, ?_⟩; conv => arg 4; whnf)
      refine ⟨fun _ => ?_, fun h => absurd h (by decide)⟩
      (conv => arg 4; whnf); repeat (refine ⟨rfl, ?_⟩; conv => arg 4; whnf)
      exact ⟨rfl, rfl, rfl⟩
    | some uk =>
      obtain ⟨u, k⟩ := uk
      rw [hg] at c
      have hk := getL_le hg
      refine call0 c (by (repeat' (first | with_reducible assumption | exact ClL.nil | exact Cl.int _ _ | exact Cl.bool _ | exact Cl.bl _ | exact Cl.bs _ | exact Cl.str _ | exact Cl.nils | exact Cl.nilp | exact Cl.rec _ | exact Cl.bat _ | exact Cl.recsV _ | exact Cl.strsV _ | exact Cl.intsV _ | exact Cl.req _ | exact Cl.rsp _ | exact Cl.reqA _ | exact Cl.rspA _ | exact Cl.batsV _ | exact Cl.getB _ | exact Cl.encA _ | exact Cl.firstA _ | refine ClL.cons ?_ ?_ | refine Cl.tup ?_ | refine Cl.agg ?_ | exact ClO.RO _ _))) (by (repeat' (first | with_reducible assumption | exact ClL.nil | exact Cl.int _ _ | exact Cl.bool _ | exact Cl.bl _ | exact Cl.bs _ | exact Cl.str _ | exact Cl.nils | exact Cl.nilp | exact Cl.rec _ | exact Cl.bat _ | exact Cl.recsV _ | exact Cl.strsV _ | exact Cl.intsV _ | exact Cl.req _ | exact Cl.rsp _ | exact Cl.reqA _ | exact Cl.rspA _ | exact Cl.batsV _ | exact Cl.getB _ | exact Cl.encA _ | exact Cl.firstA _ | refine ClL.cons ?_ ?_ | refine Cl.tup ?_ | refine Cl.agg ?_ | exact ClO.RO _ _))) ?_
      (conv => arg 4; whnf); repeat (refine ⟨rfl, ?_⟩; conv => arg 4; whnf)
      refine ⟨fun h => absurd h (by simp; omega), fun _ => ?_⟩
      (conv => arg 4; whnf); repeat (refine ⟨rfl, ?_⟩; conv => arg 4; whnf)
      refine ⟨by rw [u8s_length]; omega, ?_⟩
      (conv => arg 4; whnf); repeat (refine ⟨rfl, ?_⟩; conv => arg 4; whnf)
      refine ⟨rfl, ?_, rfl⟩
      simp only [Int.toNat_natCast, u8s_drop]

theorem refBytesR {b : List UInt8} {e most : Int} (hb : b.length ≤ 100000000000) : CallOK Try.prog 67 [.ptr 0 0, .int .i64 most] (RH b e) 1
    (fun a h m => ∃ x : ByX, (bytesR b e most = (x.v, x.r, x.e) ∧ x.r <:+ b ∧ x.v.length ≤ b.length) ∧ Out (bs x.v) [(0, RO x.r x.e)] 1 a h m) := by
  refine CallOK.mono (K := Out (bs (bytesR b e most).1) (RH (bytesR b e most).2.1 (bytesR b e most).2.2) 1) ?_ fun _ _ _ h => ⟨⟨_, _, _⟩, ⟨rfl, bytesR_suf b e most, bytesR_len b e most⟩, h⟩
  refine CallOK.fit (by decide) ?_
  refine callOK Try.call67 Try.func67 Try.ntmps67 rfl ?_
  have c := refGetBytes (most := most) (show b.length ≤ 100000000000000 by omega)
  unfold bytesA at c
  unfold bytesR
  have no : ∀ (h : Heap), Le h .nils (bs []) := fun h => Le.nils
  conv => arg 4; whnf
  refine ⟨fun h => ?_, fun h => ?_⟩
  · have h : e ≠ 0 := by simpa using h
    rw [if_pos h]
    (conv => arg 4; whnf); repeat (refine ⟨rfl, ?_⟩; conv => arg 4; whnf)
    exact ⟨by decide, no _, ⟨⟨_, rfl, LeO.refl _ _⟩, trivial⟩, (by (repeat' (first | with_reducible assumption | exact ClL.nil | exact Cl.int _ _ | exact Cl.bool _ | exact Cl.bl _ | exact Cl.bs _ | exact Cl.str _ | exact Cl.nils | exact Cl.nilp | exact Cl.rec _ | exact Cl.bat _ | exact Cl.recsV _ | exact Cl.strsV _ | exact Cl.intsV _ | exact Cl.req _ | exact Cl.rsp _ | exact Cl.reqA _ | exact Cl.rspA _ | exact Cl.batsV _ | exact Cl.getB _ | exact Cl.encA _ | exact Cl.firstA _ | refine ClL.cons ?_ ?_ | refine Cl.tup ?_ | refine Cl.agg ?_ | exact ClO.RO _ _)) : Cl _) _, ⟨⟨by decide, ClO.RO _ _ _⟩, trivial⟩⟩
  · have h : e = 0 := by simpa using h
    subst h
    rw [if_neg (by simp)]
    (conv => arg 4; whnf); repeat (refine ⟨rfl, ?_⟩; conv => arg 4; whnf)
    cases hg : getL 0 0 b with
    | none =>
      rw [hg] at c
      refine call0 c (by (repeat' (first | with_reducible assumption | exact ClL.nil | exact Cl.int _ _ | exact Cl.bool _ | exact Cl.bl _ | exact Cl.bs _ | exact Cl.str _ | exact Cl.nils | exact Cl.nilp | exact Cl.rec _ | exact Cl.bat _ | exact Cl.recsV _ | exact Cl.strsV _ | exact Cl.intsV _ | exact Cl.req _ | exact Cl.rsp _ | exact Cl.reqA _ | exact Cl.rspA _ | exact Cl.batsV _ | exact Cl.getB _ | exact Cl.encA _ | exact Cl.firstA _ | refine ClL.cons ?_ ?_ | refine Cl.tup ?_ | refine Cl.agg ?_ | exact ClO.RO _ _))) (by (repeat' (first | with_reducible assumption | exact ClL.nil | exact Cl.int _ _ | exact Cl.bool _ | exact Cl.bl _ | exact Cl.bs _ | exact Cl.str _ | exact Cl.nils | exact Cl.nilp | exact Cl.rec _ | exact Cl.bat _ | exact Cl.recsV _ | exact Cl.strsV _ | exact Cl.intsV _ | exact Cl.req _ | exact Cl.rsp _ | exact Cl.reqA _ | exact Cl.rspA _ | exact Cl.batsV _ | exact Cl.getB _ | exact Cl.encA _ | exact Cl.firstA _ | refine ClL.cons ?_ ?_ | refine Cl.tup ?_ | refine Cl.agg ?_ | exact ClO.RO _ _))) ?_
      (conv => arg 4; whnf); repeat (refine ⟨rfl, ?_⟩; conv => arg 4; whnf)
      refine ⟨fun _ => ?_, fun h => absurd h (by decide)⟩
      (conv => arg 4; whnf); repeat (refine ⟨rfl, ?_⟩; conv => arg 4; whnf)
      exact ⟨by decide, no _, ⟨⟨_, rfl, LeO.refl _ _⟩, trivial⟩, (by (repeat' (first | with_reducible assumption | exact ClL.nil | exact Cl.int _ _ | exact Cl.bool _ | exact Cl.bl _ | exact Cl.bs _ | exact Cl.str _ | exact Cl.nils | exact Cl.nilp | exact Cl.rec _ | exact Cl.bat _ | exact Cl.recsV _ | exact Cl.strsV _ | exact Cl.intsV _ | exact Cl.req _ | exact Cl.rsp _ | exact Cl.reqA _ | exact Cl.rspA _ | exact Cl.batsV _ | exact Cl.getB _ | exact Cl.encA _ | exact Cl.firstA _ | refine ClL.cons ?_ ?_ | refine Cl.tup ?_ | refine Cl.agg ?_ | exact ClO.RO _ _)) : Cl _) _, ⟨⟨by decide, ClO.RO _ _ _⟩, trivial⟩⟩
    | some uk =>
      obtain ⟨u, k⟩ := uk
      rw [hg] at c
      have hk := getL_le hg
      simp only at c ⊢
      by_cases q1 : zag u < 0 ∨ zag u > b.length - k
      · rw [if_pos q1] at c ⊢
        refine call0 c (by (repeat' (first | with_reducible assumption | exact ClL.nil | exact Cl.int _ _ | exact Cl.bool _ | exact Cl.bl _ | exact Cl.bs _ | exact Cl.str _ | exact Cl.nils | exact Cl.nilp | exact Cl.rec _ | exact Cl.bat _ | exact Cl.recsV _ | exact Cl.strsV _ | exact Cl.intsV _ | exact Cl.req _ | exact Cl.rsp _ | exact Cl.reqA _ | exact Cl.rspA _ | exact Cl.batsV _ | exact Cl.getB _ | exact Cl.encA _ | exact Cl.firstA _ | refine ClL.cons ?_ ?_ | refine Cl.tup ?_ | refine Cl.agg ?_ | exact ClO.RO _ _))) (by (repeat' (first | with_reducible assumption | exact ClL.nil | exact Cl.int _ _ | exact Cl.bool _ | exact Cl.bl _ | exact Cl.bs _ | exact Cl.str _ | exact Cl.nils | exact Cl.nilp | exact Cl.rec _ | exact Cl.bat _ | exact Cl.recsV _ | exact Cl.strsV _ | exact Cl.intsV _ | exact Cl.req _ | exact Cl.rsp _ | exact Cl.reqA _ | exact Cl.rspA _ | exact Cl.batsV _ | exact Cl.getB _ | exact Cl.encA _ | exact Cl.firstA _ | refine ClL.cons ?_ ?_ | refine Cl.tup ?_ | refine Cl.agg ?_ | exact ClO.RO _ _))) ?_
        (conv => arg 4; whnf); repeat (refine ⟨rfl, ?_⟩; conv => arg 4; whnf)
        refine ⟨fun _ => ?_, fun h => absurd h (by decide)⟩
        (conv => arg 4; whnf); repeat (refine ⟨rfl, ?_⟩; conv => arg 4; whnf)
        exact ⟨by decide, no _, ⟨⟨_, rfl, LeO.refl _ _⟩, trivial⟩, (by (repeat' (first | with_reducible assumption | exact ClL.nil | exact Cl.int _ _ | exact Cl.bool _ | exact Cl.bl _ | exact Cl.bs _ | exact Cl.str _ | exact Cl.nils | exact Cl.nilp | exact Cl.rec _ | exact Cl.bat _ | exact Cl.recsV _ | exact Cl.strsV _ | exact Cl.intsV _ | exact Cl.req _ | exact Cl.rsp _ | exact Cl.reqA _ | exact Cl.rspA _ | exact Cl.batsV _ | exact Cl.getB _ | exact Cl.encA _ | exact Cl.firstA _ | refine ClL.cons ?_ ?_ | refine Cl.tup ?_ | refine Cl.agg ?_ | exact ClO.RO _ _)) : Cl _) _, ⟨⟨by decide, ClO.RO _ _ _⟩, trivial⟩⟩
      · rw [if_neg q1] at c ⊢
        by_cases q2 : zag u > most
        · rw [if_pos q2] at c ⊢
          refine call0 c (by (repeat' (first | with_reducible assumption | exact ClL.nil | exact Cl.int _ _ | exact Cl.bool _ | exact Cl.bl _ | exact Cl.bs _ | exact Cl.str _ | exact Cl.nils | exact Cl.nilp | exact Cl.rec _ | exact Cl.bat _ | exact Cl.recsV _ | exact Cl.strsV _ | exact Cl.intsV _ | exact Cl.req _ | exact Cl.rsp _ | exact Cl.reqA _ | exact Cl.rspA _ | exact Cl.batsV _ | exact Cl.getB _ | exact Cl.encA _ | exact Cl.firstA _ | refine ClL.cons ?_ ?_ | refine Cl.tup ?_ | refine Cl.agg ?_ | exact ClO.RO _ _))) (by (repeat' (first | with_reducible assumption | exact ClL.nil | exact Cl.int _ _ | exact Cl.bool _ | exact Cl.bl _ | exact Cl.bs _ | exact Cl.str _ | exact Cl.nils | exact Cl.nilp | exact Cl.rec _ | exact Cl.bat _ | exact Cl.recsV _ | exact Cl.strsV _ | exact Cl.intsV _ | exact Cl.req _ | exact Cl.rsp _ | exact Cl.reqA _ | exact Cl.rspA _ | exact Cl.batsV _ | exact Cl.getB _ | exact Cl.encA _ | exact Cl.firstA _ | refine ClL.cons ?_ ?_ | refine Cl.tup ?_ | refine Cl.agg ?_ | exact ClO.RO _ _))) ?_
          (conv => arg 4; whnf); repeat (refine ⟨rfl, ?_⟩; conv => arg 4; whnf)
          refine ⟨fun _ => ?_, fun h => absurd h (by decide)⟩
          (conv => arg 4; whnf); repeat (refine ⟨rfl, ?_⟩; conv => arg 4; whnf)
          exact ⟨by decide, no _, ⟨⟨_, rfl, LeO.refl _ _⟩, trivial⟩, (by (repeat' (first | with_reducible assumption | exact ClL.nil | exact Cl.int _ _ | exact Cl.bool _ | exact Cl.bl _ | exact Cl.bs _ | exact Cl.str _ | exact Cl.nils | exact Cl.nilp | exact Cl.rec _ | exact Cl.bat _ | exact Cl.recsV _ | exact Cl.strsV _ | exact Cl.intsV _ | exact Cl.req _ | exact Cl.rsp _ | exact Cl.reqA _ | exact Cl.rspA _ | exact Cl.batsV _ | exact Cl.getB _ | exact Cl.encA _ | exact Cl.firstA _ | refine ClL.cons ?_ ?_ | refine Cl.tup ?_ | refine Cl.agg ?_ | exact ClO.RO _ _)) : Cl _) _, ⟨⟨by decide, ClO.RO _ _ _⟩, trivial⟩⟩
        · rw [if_neg q2] at c ⊢
          refine call0 c (by (repeat' (first | with_reducible assumption | exact ClL.nil | exact Cl.int _ _ | exact Cl.bool _ | exact Cl.bl _ | exact Cl.bs _ | exact Cl.str _ | exact Cl.nils | exact Cl.nilp | exact Cl.rec _ | exact Cl.bat _ | exact Cl.recsV _ | exact Cl.strsV _ | exact Cl.intsV _ | exact Cl.req _ | exact Cl.rsp _ | exact Cl.reqA _ | exact Cl.rspA _ | exact Cl.batsV _ | exact Cl.getB _ | exact Cl.encA _ | exact Cl.firstA _ | refine ClL.cons ?_ ?_ | refine Cl.tup ?_ | refine Cl.agg ?_ | exact ClO.RO _ _))) (by (repeat' (first | with_reducible assumption | exact ClL.nil | exact Cl.int _ _ | exact Cl.bool _ | exact Cl.bl _ | exact Cl.bs _ | exact Cl.str _ | exact Cl.nils | exact Cl.nilp | exact Cl.rec _ | exact Cl.bat _ | exact Cl.recsV _ | exact Cl.strsV _ | exact Cl.intsV _ | exact Cl.req _ | exact Cl.rsp _ | exact Cl.reqA _ | exact Cl.rspA _ | exact Cl.batsV _ | exact Cl.getB _ | exact Cl.encA _ | exact Cl.firstA _ | refine ClL.cons ?_ ?_ | refine Cl.tup ?_ | refine Cl.agg ?_ | exact ClO.RO _ _))) ?_
          (conv => arg 4; whnf); repeat (refine ⟨rfl, ?_⟩; conv => arg 4; whnf)
          refine ⟨fun h => absurd h (by first | (simp; done) | (simp [u8s]; done)), fun _ => ?_⟩
          conv => arg 4; whnf
          refine ⟨sizeOk 1 rfl ?_, ?_⟩
          · simp [u8s]; omega
          (conv => arg 4; whnf); repeat (refine ⟨rfl, ?_⟩; conv => arg 4; whnf)
          exact ⟨by decide, Le.noneOf (by rw [List.nil_append]), ⟨⟨_, rfl, LeO.refl _ _⟩, trivial⟩, (by (repeat' (first | with_reducible assumption | exact ClL.nil | exact Cl.int _ _ | exact Cl.bool _ | exact Cl.bl _ | exact Cl.bs _ | exact Cl.str _ | exact Cl.nils | exact Cl.nilp | exact Cl.rec _ | exact Cl.bat _ | exact Cl.recsV _ | exact Cl.strsV _ | exact Cl.intsV _ | exact Cl.req _ | exact Cl.rsp _ | exact Cl.reqA _ | exact Cl.rspA _ | exact Cl.batsV _ | exact Cl.getB _ | exact Cl.encA _ | exact Cl.firstA _ | refine ClL.cons ?_ ?_ | refine Cl.tup ?_ | refine Cl.agg ?_ | exact ClO.RO _ _)) : Cl _) _, ⟨⟨by decide, ClO.RO _ _ _⟩, trivial⟩⟩

/-! ## One read ahead of known bytes -/

theorem step_num {b t r : List UInt8} {e v f n : Int} (h : numR b e = (v, r, f)) (hb : b = put n ++ t ∧ e = 0) (hn : I64 n) : v = n ∧ r = t ∧ f = 0 := by
  rw [hb.1, hb.2, numR_put hn] at h
  simp only [Prod.mk.injEq] at h
  exact ⟨h.1.symm, h.2.1.symm, h.2.2.symm⟩
theorem step_bytes {b t r v s : List UInt8} {e f most : Int} (h : bytesR b e most = (v, r, f)) (hb : b = lenB s ++ t ∧ e = 0) (hs : (s.length : Int) ≤ most) (hl : s.length ≤ 1000000000) : v = s ∧ r = t ∧ f = 0 := by
  rw [hb.1, hb.2, lenB, bytesR_put hs hl] at h
  simp only [Prod.mk.injEq] at h
  exact ⟨h.1.symm, h.2.1.symm, h.2.2.symm⟩

/-! ## Numbers of two or four bytes at a place -/

theorem slice_at {P pre x post : List UInt8} {a b : Nat} (h : P = pre ++ (x ++ post)) (ha : pre.length = a) (hb : b = a + x.length) : (P.take b).drop a = x := by
  subst h ha hb
  rw [List.take_append, List.take_of_length_le (by omega), List.drop_left, Nat.add_sub_cancel_left, List.take_left]

theorem unfixed_bound : ∀ (l : List UInt8) (n : Nat), unfixed n l < (n + 1) * 256 ^ l.length := by
  intro l
  induction l with
  | nil => intro n; simp [unfixed]
  | cons c r ih =>
    intro n
    have h1 := ih (n * 256 + c.toNat)
    have h2 : c.toNat < 256 := c.toNat_lt
    unfold unfixed
    refine Nat.lt_of_lt_of_le h1 ?_
    rw [List.length_cons, Nat.pow_succ, Nat.mul_comm (256 ^ r.length) 256, ← Nat.mul_assoc]
    exact Nat.mul_le_mul_right _ (by omega)

/-- The number that stands in bytes. -/
def fx (P : List UInt8) (a b : Nat) : Int := (unfixed 0 ((P.take b).drop a) : Nat)

theorem fx_lt {P : List UInt8} {a b : Nat} (h : b - a ≤ 4) : 0 ≤ fx P a b ∧ fx P a b < 4294967296 := by
  unfold fx
  have h1 := unfixed_bound ((P.take b).drop a) 0
  have h2 : ((P.take b).drop a).length ≤ 4 := by simp; omega
  have h3 : 256 ^ ((P.take b).drop a).length ≤ 256 ^ 4 := Nat.pow_le_pow_right (by omega) h2
  have h4 : (256 : Nat) ^ 4 = 4294967296 := by decide
  omega
theorem fx_eq {P pre post : List UInt8} {n : Int} {a b k : Nat} (h : P = pre ++ (fixed n.toNat k ++ post)) (ha : pre.length = a) (hb : b = a + k) (hn : 0 ≤ n) (hk : n < 256 ^ k) : fx P a b = n := by
  have e : (256 : Int) ^ k = ((256 ^ k : Nat) : Int) := by simp
  have z : 0 = n.toNat / 256 ^ k := by rw [Nat.div_eq_of_lt]; omega
  rw [fx, slice_at h ha (by rw [hb, fixed_len]), unfixed_fixed k 0 z]
  omega
theorem getFx {P : List UInt8} {a b : Nat} (h : b - a ≤ 4) : CallOK Try.prog 20 [.sl .none 0 (((u8s P).take b).drop a)] [] 0 (Out (.int .i64 (fx P a b)) [] 0) := by
  have := fx_lt (P := P) h
  have e : IntKind.i64.wrap (unfixed 0 ((P.take b).drop a) : Nat) = fx P a b := by
    unfold fx at this ⊢
    rw [IntKind.wrap_i64]; omega
  rw [u8s_take, u8s_drop, ← e]
  exact refGetFixed (by simp; omega)
theorem getFx0 {P : List UInt8} {b : Nat} (h : b ≤ 4) : CallOK Try.prog 20 [.sl .none 0 ((u8s P).take b)] [] 0 (Out (.int .i64 (fx P 0 b)) [] 0) := getFx (P := P) (a := 0) h
theorem clFx (P : List UInt8) (a b : Nat) : ClL [.sl .none 0 (((u8s P).take b).drop a)] := by
  rw [u8s_take, u8s_drop]
  exact ClL.cons (Cl.bs _) ClL.nil
theorem clFx0 (P : List UInt8) (b : Nat) : ClL [.sl .none 0 ((u8s P).take b)] := by
  rw [u8s_take]
  exact ClL.cons (Cl.bs _) ClL.nil

/-- A number of few bytes, read. -/
theorem fixedR_few {b : List UInt8} {k : Nat} (hk : 1 ≤ k ∧ k ≤ 4) (hb : k ≤ b.length) : fixedR b 0 k = (((unfixed 0 (b.take k) : Nat) : Int), b.drop k, (0 : Int)) := by
  unfold fixedR
  rw [if_neg (by simp), if_neg (by omega)]
  simp
theorem fixedR_short {b : List UInt8} {e : Int} {k : Nat} (hk : 1 ≤ k ∧ k ≤ 4) (hb : b.length < k) : (fixedR b e k).2.2 ≠ 0 := by
  unfold fixedR
  by_cases h : e = 0
  · rw [if_neg (by simpa using h), if_pos (by omega)]
    simp
  · rw [if_pos h]
    exact h
theorem fixedR_err {b : List UInt8} {e size : Int} (h : e ≠ 0) : fixedR b e size = (0, b, e) := by
  unfold fixedR
  rw [if_pos h]

theorem getL_lt : ∀ {l : List UInt8} {i u v k : Nat}, getL i u l = some (v, k) → u < 128 ^ i → v < 18446744073709551616
  | [], i, u, v, k, h, _ => by simp [getL] at h
  | c :: r, i, u, v, k, h, hu => by
    unfold getL at h
    split at h
    · cases h
    · rename_i hc
      split at h
      · refine getL_lt h ?_
        have : c.toNat % 128 < 128 := Nat.mod_lt _ (by decide)
        have h2 : c.toNat % 128 * 128 ^ i ≤ 127 * 128 ^ i := Nat.mul_le_mul_right _ (by omega)
        rw [Nat.pow_succ]
        omega
      · split at h
        · cases h
        · simp only [Option.some.injEq, Prod.mk.injEq] at h
          obtain ⟨rfl, -⟩ := h
          have h9 : (128 : Nat) ^ 9 = 9223372036854775808 := by decide
          by_cases hi : i = 9
          · subst hi
            rw [h9] at hu ⊢
            have : c.toNat % 128 ≤ 1 := by omega
            omega
          · have h1 : 128 ^ (i + 1) ≤ 128 ^ 9 := Nat.pow_le_pow_right (by decide) (by omega)
            have h2 : c.toNat % 128 * 128 ^ i ≤ 127 * 128 ^ i := Nat.mul_le_mul_right _ (by have := Nat.mod_lt c.toNat (show 0 < 128 by decide); omega)
            rw [Nat.pow_succ] at h1
            omega

theorem numR_range (b : List UInt8) (e : Int) : I64 (numR b e).1 := by
  unfold numR
  split
  · unfold I64; simp
  · split
    · rename_i u k h
      exact zag_range (getL_lt h (by simp))
    · unfold I64; simp
end Go.Proofs.Ytbehegpahiefaaa.Pr

namespace Go.Proofs.Ytbehegpahiefaaa.Pr
set_option maxRecDepth 100000
set_option maxHeartbeats 80000000
open Go.Sym

def Req.u11 (r : Req) : List UInt8 := textsB r.names ++ lenB r.data
def Req.u10 (r : Req) : List UInt8 := put r.names.length ++ r.u11
def Req.u9 (r : Req) : List UInt8 := put r.gen ++ r.u10
def Req.u8 (r : Req) : List UInt8 := lenB r.member ++ r.u9
def Req.u7 (r : Req) : List UInt8 := lenB r.group ++ r.u8
def Req.u6 (r : Req) : List UInt8 := put r.max ++ r.u7
def Req.u5 (r : Req) : List UInt8 := put r.time ++ r.u6
def Req.u4 (r : Req) : List UInt8 := put r.off ++ r.u5
def Req.u3 (r : Req) : List UInt8 := put r.part ++ r.u4
def Req.u2 (r : Req) : List UInt8 := lenB r.topic ++ r.u3
def Req.u1 (r : Req) : List UInt8 := lenB r.client ++ r.u2

theorem enc_u (r : Req) : r.enc = fixed r.kind.toNat 2 ++ (fixed r.corr.toNat 4 ++ r.u1) := by
  simp only [Req.enc, Req.head, Req.u1, Req.u2, Req.u3, Req.u4, Req.u5, Req.u6, Req.u7, Req.u8, Req.u9, Req.u10, Req.u11, List.append_assoc]

structure Req.good (r : Req) (p : List UInt8) : Prop where
  c : r.chk = 0
  o : r.ok
  e : r.enc = p

/-- The number of the request that stands in bytes. -/
def corrOf (p : List UInt8) : Int := if 6 ≤ p.length ∧ fx p 2 6 ≤ 2147483647 then fx p 2 6 else 0

theorem fixed_two {p : List UInt8} {x1 x2 : FxX} (hl : 6 ≤ p.length) (h1 : fixedR p 0 2 = (x1.v, x1.r, x1.e)) (h2 : fixedR x1.r x1.e 4 = (x2.v, x2.r, x2.e)) : x1.v = fx p 0 2 ∧ x2.v = fx p 2 6 ∧ x2.r = p.drop 6 ∧ x2.e = 0 := by
  have a1 := fixedR_few (b := p) (k := 2) (by omega) (by omega)
  have e1 : ((2 : Nat) : Int) = 2 := rfl
  rw [e1, h1] at a1
  simp only [Prod.mk.injEq] at a1
  obtain ⟨a1, a2, a3⟩ := a1
  rw [a2, a3] at h2
  have b1 := fixedR_few (b := p.drop 2) (k := 4) (by omega) (by simp; omega)
  have e2 : ((4 : Nat) : Int) = 4 := rfl
  rw [e2, h2] at b1
  simp only [Prod.mk.injEq] at b1
  obtain ⟨b1, b2, b3⟩ := b1
  refine ⟨by rw [a1]; rfl, ?_, by rw [b2, List.drop_drop], b3⟩
  rw [b1, fx, List.take_drop]

theorem corrP {p : List UInt8} (hl : p.length ≤ 1000000000) : CallOK Try.prog 65 [bs p] [] 0 (Out (.int .i64 (corrOf p)) [] 0) := by
  refine CallOK.fit (by decide) ?_
  refine callOK Try.call65 Try.func65 Try.ntmps65 rfl ?_
  conv => arg 4; whnf
  have hm : (if (6 : Int) < ((u8s p).length : Int) then (6 : Int) else ((u8s p).length : Int)) = ((min 6 p.length : Nat) : Int) := by rw [u8s_length]; split <;> omega
  refine ⟨by rw [hm, u8s_length]; omega, ?_⟩
  (conv => arg 4; whnf); repeat (refine ⟨rfl, ?_⟩; conv => arg 4; whnf)
  refine holds_args (args' := [bs (p.take 6)]) ⟨Le.of_eq (congrArg (AV.sl .none 0) ?_), trivial⟩ ?_
  · have ht : p.take (min 6 p.length) = p.take 6 := by
      rw [Nat.min_def]; split
      · rfl
      · rw [List.take_of_length_le (Nat.le_refl _), List.take_of_length_le (by omega)]
    rw [hm, Int.toNat_natCast, u8s_take, ht]
  refine callNew (newReader (b := p.take 6) (by simp; omega)) (ClL.cons (Cl.bs _) ClL.nil) (ClO.RO _ _) ?_
  (conv => arg 4; whnf); repeat (refine ⟨rfl, ?_⟩; conv => arg 4; whnf)
  have l0 : (p.take 6).length ≤ 6 := by simp; omega
  refine call1E 0 (rFixedE (b := p.take 6) (e := 0) (size := 2) (by unfold I64; omega) (by omega)) rfl rfl (ClO.RO _ _) (fun x => ClO.RO _ _) rfl (fun x => Cl.int _ _) fun x1 h1 => ?_
  have l1 := h1.2.length_le
  (conv => arg 4; whnf); repeat (refine ⟨rfl, ?_⟩; conv => arg 4; whnf)
  refine call1E 0 (rFixedE (b := x1.r) (e := x1.e) (size := 4) (by unfold I64; omega) (by omega)) rfl rfl (ClO.RO _ _) (fun x => ClO.RO _ _) rfl (fun x => Cl.int _ _) fun x2 h2 => ?_
  (conv => arg 4; whnf); repeat (refine ⟨rfl, ?_⟩; conv => arg 4; whnf)
  refine call1 0 rErrE rfl rfl (ClO.RO _ _) (ClO.RO _ _) rfl (Cl.int _ _) ?_
  (conv => arg 4; whnf); repeat (refine ⟨rfl, ?_⟩; conv => arg 4; whnf)
  have hs : p.length < 6 → x2.e ≠ 0 := fun hp => by
    have a1 := h1.1
    have a2 := h2.1
    by_cases q : p.length < 2
    · have s1 := fixedR_short (b := p.take 6) (e := 0) (k := 2) (by omega) (by simp; omega)
      have e1 : ((2 : Nat) : Int) = 2 := rfl
      rw [e1, a1] at s1
      rw [fixedR_err s1] at a2
      simp only [Prod.mk.injEq] at a2
      rw [← a2.2.2]; exact s1
    · have b1 := fixedR_few (b := p.take 6) (k := 2) (by omega) (by simp; omega)
      have e1 : ((2 : Nat) : Int) = 2 := rfl
      rw [e1, a1] at b1
      simp only [Prod.mk.injEq] at b1
      have s2 := fixedR_short (b := x1.r) (e := x1.e) (k := 4) (by omega) (by rw [b1.2.1]; simp; omega)
      have e2 : ((4 : Nat) : Int) = 4 := rfl
      rw [e2, a2] at s2
      exact s2
  have hb : 6 ≤ p.length → x2.e = 0 ∧ x2.v = fx p 2 6 := fun hp => by
    obtain ⟨-, q2, -, q4⟩ := fixed_two (by simp; omega) h1.1 h2.1
    refine ⟨q4, ?_⟩
    rw [q2, fx, fx, List.take_take]
    rfl
  refine ⟨fun h => ?_, fun h => ?_⟩
  · simp only [Bool.cond_true_left, Bool.cond_false_right, Bool.or_eq_true, Bool.and_eq_true, Bool.not_eq_true', decide_eq_true_eq, beq_iff_eq, bne_iff_ne, u8s_length, Bool.not_eq_true, gt_iff_lt, ge_iff_le] at h
    (conv => arg 4; whnf); repeat (refine ⟨rfl, ?_⟩; conv => arg 4; whnf)
    have hc : corrOf p = 0 := by
      unfold corrOf
      by_cases hp : 6 ≤ p.length
      · obtain ⟨q1, q2⟩ := hb hp
        rw [if_neg (by omega)]
      · rw [if_neg (by omega)]
    rw [hc]
    exact ⟨by decide, by (repeat' (first | with_reducible exact Le.refl _ _ | exact Le.bl | exact Le.lb | exact Le.nils | exact Le.nilsFull | exact Le.none | exact LeL.nil _ | refine LeL.cons ?_ ?_ | refine Le.tup ?_ | refine Le.agg ?_ | exact Le.refl _ _ | exact LeL.refl _ _)), trivial, (by (repeat' (first | with_reducible assumption | exact ClL.nil | exact Cl.int _ _ | exact Cl.bool _ | exact Cl.bl _ | exact Cl.bs _ | exact Cl.str _ | exact Cl.nils | exact Cl.nilp | exact Cl.rec _ | exact Cl.bat _ | exact Cl.recsV _ | exact Cl.strsV _ | exact Cl.intsV _ | exact Cl.req _ | exact Cl.rsp _ | exact Cl.reqA _ | exact Cl.rspA _ | exact Cl.batsV _ | exact Cl.getB _ | exact Cl.encA _ | exact Cl.firstA _ | refine ClL.cons ?_ ?_ | refine Cl.tup ?_ | refine Cl.agg ?_ | exact ClO.RO _ _)) : Cl _) _, trivial⟩
  · rw [← Bool.not_eq_true] at h; simp only [Bool.cond_true_left, Bool.cond_false_right, Bool.or_eq_true, Bool.and_eq_true, Bool.not_eq_true', decide_eq_true_eq, beq_iff_eq, bne_iff_ne, u8s_length, gt_iff_lt, ge_iff_le] at h
    (conv => arg 4; whnf); repeat (refine ⟨rfl, ?_⟩; conv => arg 4; whnf)
    have hp : 6 ≤ p.length := by
      rcases Nat.lt_or_ge p.length 6 with hp | hp
      · have := hs hp
        omega
      · exact hp
    obtain ⟨q1, q2⟩ := hb hp
    have hc : corrOf p = x2.v := by
      unfold corrOf
      rw [if_pos (by omega), q2]
    rw [hc]
    exact ⟨by decide, by (repeat' (first | with_reducible exact Le.refl _ _ | exact Le.bl | exact Le.lb | exact Le.nils | exact Le.nilsFull | exact Le.none | exact LeL.nil _ | refine LeL.cons ?_ ?_ | refine Le.tup ?_ | refine Le.agg ?_ | exact Le.refl _ _ | exact LeL.refl _ _)), trivial, (by (repeat' (first | with_reducible assumption | exact ClL.nil | exact Cl.int _ _ | exact Cl.bool _ | exact Cl.bl _ | exact Cl.bs _ | exact Cl.str _ | exact Cl.nils | exact Cl.nilp | exact Cl.rec _ | exact Cl.bat _ | exact Cl.recsV _ | exact Cl.strsV _ | exact Cl.intsV _ | exact Cl.req _ | exact Cl.rsp _ | exact Cl.reqA _ | exact Cl.rspA _ | exact Cl.batsV _ | exact Cl.getB _ | exact Cl.encA _ | exact Cl.firstA _ | refine ClL.cons ?_ ?_ | refine Cl.tup ?_ | refine Cl.agg ?_ | exact ClO.RO _ _)) : Cl _) _, trivial⟩
end Go.Proofs.Ytbehegpahiefaaa.Pr

namespace Go.Proofs.Ytbehegpahiefaaa.Pr
set_option maxRecDepth 100000
set_option maxHeartbeats 80000000
open Go.Sym

def E3 (e : Int) : Prop := e = 0 ∨ e = 2 ∨ e = 3
theorem E3.num {b r : List UInt8} {e v f : Int} (h : E3 e) (k : numR b e = (v, r, f)) : E3 f := by
  unfold numR at k
  split at k
  · cases k; exact h
  · split at k <;> cases k
    · exact .inl rfl
    · exact .inr (.inl rfl)
theorem E3.bytes {b r v : List UInt8} {e most f : Int} (h : E3 e) (k : bytesR b e most = (v, r, f)) : E3 f := by
  unfold bytesR at k
  split at k
  · cases k; exact h
  · split at k
    · split at k
      · cases k; exact .inr (.inl rfl)
      · split at k <;> cases k
        · exact .inr (.inr rfl)
        · exact .inl rfl
    · cases k; exact .inr (.inl rfl)
theorem E3.fixed {b r : List UInt8} {e size v f : Int} (h : E3 e) (k : fixedR b e size = (v, r, f)) : E3 f := by
  unfold fixedR at k
  split at k
  · cases k; exact h
  · split at k <;> cases k
    · exact .inr (.inl rfl)
    · exact .inl rfl
theorem num_zero {b r : List UInt8} {e v f : Int} (k : numR b e = (v, r, f)) (h : f ≠ 0) : v = 0 := by
  unfold numR at k
  split at k
  · cases k; rfl
  · split at k <;> cases k
    · exact absurd rfl h
    · rfl
theorem num_i64 {b r : List UInt8} {e v f : Int} (k : numR b e = (v, r, f)) : I64 v := by
  have := numR_range b e
  rw [k] at this
  exact this
theorem fixed_small {b r : List UInt8} {e v f : Int} {k : Nat} (hk : k ≤ 4) (h : fixedR b e k = (v, r, f)) : 0 ≤ v ∧ v < 4294967296 := by
  unfold fixedR at h
  split at h
  · cases h; omega
  · split at h
    · cases h; omega
    · cases h
      have h1 := unfixed_bound (b.take (k : Int).toNat) 0
      have h2 : (b.take (k : Int).toNat).length ≤ 4 := by simp; omega
      have h3 : 256 ^ (b.take (k : Int).toNat).length ≤ 256 ^ 4 := Nat.pow_le_pow_right (by omega) h2
      have h4 : (256 : Nat) ^ 4 = 4294967296 := by decide
      omega

theorem good_six {y : Req} {p : List UInt8} (h : y.good p) : 6 ≤ p.length ∧ fx p 0 2 = y.kind ∧ fx p 2 6 = y.corr ∧ p.drop 6 = y.u1 := by
  have he := h.e
  rw [enc_u] at he
  obtain ⟨c1, c2, c3, c4, -⟩ := Req.chk_ok h.c
  have p2 : (256 : Int) ^ 2 = 65536 := by decide
  have p4 : (256 : Int) ^ 4 = 4294967296 := by decide
  refine ⟨?_, ?_, ?_, ?_⟩
  · rw [← he]; simp only [List.length_append, fixed_len]; omega
  · exact fx_eq (pre := []) (k := 2) he.symm rfl rfl (by omega) (by rw [p2]; omega)
  · exact fx_eq (pre := fixed y.kind.toNat 2) (k := 4) he.symm (fixed_len _ _) rfl (by omega) (by rw [p4]; omega)
  · rw [← he, ← List.append_assoc, List.drop_left' (by simp only [List.length_append, fixed_len])]

theorem textsB_drop {l : List (List UInt8)} {i : Nat} {x : List UInt8} (h : l[i]? = some x) : textsB (l.drop i) = lenB x ++ textsB (l.drop (i + 1)) := by
  obtain ⟨hi, hx⟩ := List.getElem?_eq_some_iff.1 h
  rw [List.drop_eq_getElem_cons hi, hx]
  rfl

theorem bytesEqual {a b : List UInt8} : CallOK Try.prog 72 [bs a, bs b] [] 0 (Out (.bool (a == b)) [] 0) := by
  refine callOK Try.call72 Try.func72 Try.ntmps72 rfl ?_
  conv => arg 4; whnf
  refine ⟨a, rfl, ?_⟩
  conv => arg 4; whnf
  refine ⟨b, rfl, ?_⟩
  conv => arg 4; whnf
  exact ⟨rfl, rfl, rfl⟩

structure RrX where
  r : Req
  e : Int

structure RrI (p : List UInt8) (n : Int) (r0 : List UInt8) where
  i : Nat
  s : Nat
  r : List UInt8
  e : Int
  l : List (List UInt8)
  hi : (i : Int) ≤ max n 0
  hl : l.length = i
  hr : r.length ≤ r0.length
  he : E3 e
  h : ∀ y : Req, y.good p → l = y.names.take i ∧ r = textsB (y.names.drop i) ++ lenB y.data ∧ e = 0

/-- What reading a request answers. -/
def RdOk (p : List UInt8) (x : RrX) : Prop :=
  (x.e = 0 → x.r.good p) ∧ (∀ y : Req, y.good p → x.e = 0 ∧ x.r = y) ∧ (x.e = 16 ∨ E3 x.e) ∧ (6 ≤ p.length → (x.e = 16 ↔ (fx p 0 2 < 1 ∨ 14 < fx p 0 2)))

theorem reqRead {p : List UInt8} (hl : p.length ≤ 1000000000) : CallOK Try.prog 66 [bs p] [] 0
    (fun a h m => ∃ x : RrX, RdOk p x ∧ Out (.tup [x.r.av, .int .i64 x.e]) [] 0 a h m) := by
  refine CallOK.fitE (by decide) ?_
  refine callOK Try.call66 Try.func66 Try.ntmps66 rfl ?_
  conv => arg 4; whnf
  refine callNew (newReader (b := p) (by omega)) (ClL.cons (Cl.bs _) ClL.nil) (ClO.RO _ _) ?_
  (conv => arg 4; whnf); repeat (refine ⟨rfl, ?_⟩; conv => arg 4; whnf)
  refine call1E 1 (rFixedE (b := p) (e := 0) (size := 2) (by unfold I64; omega) (by omega)) rfl rfl (ClO.RO _ _) (fun x => ClO.RO _ _) rfl (fun x => Cl.int _ _) fun x1 h1 => ?_
  have l1 := h1.2.length_le
  (conv => arg 4; whnf); repeat (refine ⟨rfl, ?_⟩; conv => arg 4; whnf)
  refine call1E 1 (rFixedE (b := x1.r) (e := x1.e) (size := 4) (by unfold I64; omega) (by omega)) rfl rfl (ClO.RO _ _) (fun x => ClO.RO _ _) rfl (fun x => Cl.int _ _) fun x2 h2 => ?_
  have l2 := h2.2.length_le
  (conv => arg 4; whnf); repeat (refine ⟨rfl, ?_⟩; conv => arg 4; whnf)
  have e2 : E3 x2.e := E3.fixed (E3.fixed (.inl rfl) h1.1) h2.1
  have b1 := fixed_small (k := 2) (by omega) h1.1
  have b2 := fixed_small (k := 4) (by omega) h2.1
  have g2 : ∀ y : Req, y.good p → x1.v = y.kind ∧ x2.v = y.corr ∧ x2.r = y.u1 ∧ x2.e = 0 := fun y hy => by
    obtain ⟨q1, q2, q3, q4⟩ := good_six hy
    obtain ⟨f1, f2, f3, f4⟩ := fixed_two q1 h1.1 h2.1
    exact ⟨f1.trans q2, f2.trans q3, f3.trans q4, f4⟩
  have gk : 6 ≤ p.length → x1.v = fx p 0 2 := fun hp => (fixed_two hp h1.1 h2.1).1
  have gz : ∀ y : Req, y.good p → 1 ≤ x1.v ∧ x1.v ≤ 14 := fun y hy => by
    obtain ⟨c1, c2, -⟩ := Req.chk_ok hy.c
    rw [(g2 y hy).1]; exact ⟨c1, c2⟩
  refine ⟨fun hk => ?_, fun hk => ?_⟩
  · simp only [Bool.cond_true_left, Bool.cond_false_right, Bool.or_eq_true, Bool.and_eq_true, Bool.not_eq_true', decide_eq_true_eq, beq_iff_eq, bne_iff_ne, u8s_length, Bool.not_eq_true, gt_iff_lt, ge_iff_le] at hk
    (conv => arg 4; whnf); repeat (refine ⟨rfl, ?_⟩; conv => arg 4; whnf)
    refine ⟨⟨⟨x1.v, x2.v, [], [], 0, 0, 0, 0, [], [], 0, [], []⟩, 16⟩, ⟨fun (h : (16 : Int) = 0) => absurd h (by decide), fun y hy => ?_, .inl rfl, fun hp => ⟨fun _ => ?_, fun _ => rfl⟩⟩, by decide, by (repeat' (first | with_reducible exact Le.refl _ _ | exact Le.bl | exact Le.lb | exact Le.nils | exact Le.nilsFull | exact Le.none | exact LeL.nil _ | refine LeL.cons ?_ ?_ | refine Le.tup ?_ | refine Le.agg ?_ | exact Le.refl _ _ | exact LeL.refl _ _)), trivial, (by (repeat' (first | with_reducible assumption | exact ClL.nil | exact Cl.int _ _ | exact Cl.bool _ | exact Cl.bl _ | exact Cl.bs _ | exact Cl.str _ | exact Cl.nils | exact Cl.nilp | exact Cl.rec _ | exact Cl.bat _ | exact Cl.recsV _ | exact Cl.strsV _ | exact Cl.intsV _ | exact Cl.req _ | exact Cl.rsp _ | exact Cl.reqA _ | exact Cl.rspA _ | exact Cl.batsV _ | exact Cl.getB _ | exact Cl.encA _ | exact Cl.firstA _ | refine ClL.cons ?_ ?_ | refine Cl.tup ?_ | refine Cl.agg ?_ | exact ClO.RO _ _)) : Cl _) _, trivial⟩
    · have := gz y hy; omega
    · rw [← gk hp]; exact hk
  · rw [← Bool.not_eq_true] at hk; simp only [Bool.cond_true_left, Bool.cond_false_right, Bool.or_eq_true, Bool.and_eq_true, Bool.not_eq_true', decide_eq_true_eq, beq_iff_eq, bne_iff_ne, u8s_length, gt_iff_lt, ge_iff_le] at hk
    (conv => arg 4; whnf); repeat (refine ⟨rfl, ?_⟩; conv => arg 4; whnf)
    refine call1E 1 (rTextE (b := x2.r) (e := x2.e) (most := 100) (by omega)) rfl rfl (ClO.RO _ _) (fun x => ClO.RO _ _) rfl (fun x => Cl.str _) fun x3 h3 => ?_
    have l3 := h3.2.1.length_le
    have e3 := e2.bytes h3.1
    (conv => arg 4; whnf); repeat (refine ⟨rfl, ?_⟩; conv => arg 4; whnf)
    refine call1E 1 (rTextE (b := x3.r) (e := x3.e) (most := 100) (by omega)) rfl rfl (ClO.RO _ _) (fun x => ClO.RO _ _) rfl (fun x => Cl.str _) fun x4 h4 => ?_
    have l4 := h4.2.1.length_le
    have e4 := e3.bytes h4.1
    (conv => arg 4; whnf); repeat (refine ⟨rfl, ?_⟩; conv => arg 4; whnf)
    refine call1E 1 (rNumE (b := x4.r) (e := x4.e) (by omega)) rfl rfl (ClO.RO _ _) (fun x => ClO.RO _ _) rfl (fun x => Cl.int _ _) fun x5 h5 => ?_
    have l5 := h5.2.length_le
    have e5 := e4.num h5.1
    (conv => arg 4; whnf); repeat (refine ⟨rfl, ?_⟩; conv => arg 4; whnf)
    refine call1E 1 (rNumE (b := x5.r) (e := x5.e) (by omega)) rfl rfl (ClO.RO _ _) (fun x => ClO.RO _ _) rfl (fun x => Cl.int _ _) fun x6 h6 => ?_
    have l6 := h6.2.length_le
    have e6 := e5.num h6.1
    (conv => arg 4; whnf); repeat (refine ⟨rfl, ?_⟩; conv => arg 4; whnf)
    refine call1E 1 (rNumE (b := x6.r) (e := x6.e) (by omega)) rfl rfl (ClO.RO _ _) (fun x => ClO.RO _ _) rfl (fun x => Cl.int _ _) fun x7 h7 => ?_
    have l7 := h7.2.length_le
    have e7 := e6.num h7.1
    (conv => arg 4; whnf); repeat (refine ⟨rfl, ?_⟩; conv => arg 4; whnf)
    refine call1E 1 (rNumE (b := x7.r) (e := x7.e) (by omega)) rfl rfl (ClO.RO _ _) (fun x => ClO.RO _ _) rfl (fun x => Cl.int _ _) fun x8 h8 => ?_
    have l8 := h8.2.length_le
    have e8 := e7.num h8.1
    (conv => arg 4; whnf); repeat (refine ⟨rfl, ?_⟩; conv => arg 4; whnf)
    refine call1E 1 (rTextE (b := x8.r) (e := x8.e) (most := 100) (by omega)) rfl rfl (ClO.RO _ _) (fun x => ClO.RO _ _) rfl (fun x => Cl.str _) fun x9 h9 => ?_
    have l9 := h9.2.1.length_le
    have e9 := e8.bytes h9.1
    (conv => arg 4; whnf); repeat (refine ⟨rfl, ?_⟩; conv => arg 4; whnf)
    refine call1E 1 (rTextE (b := x9.r) (e := x9.e) (most := 100) (by omega)) rfl rfl (ClO.RO _ _) (fun x => ClO.RO _ _) rfl (fun x => Cl.str _) fun x10 h10 => ?_
    have l10 := h10.2.1.length_le
    have e10 := e9.bytes h10.1
    (conv => arg 4; whnf); repeat (refine ⟨rfl, ?_⟩; conv => arg 4; whnf)
    refine call1E 1 (rNumE (b := x10.r) (e := x10.e) (by omega)) rfl rfl (ClO.RO _ _) (fun x => ClO.RO _ _) rfl (fun x => Cl.int _ _) fun x11 h11 => ?_
    have l11 := h11.2.length_le
    have e11 := e10.num h11.1
    (conv => arg 4; whnf); repeat (refine ⟨rfl, ?_⟩; conv => arg 4; whnf)
    refine call1E 1 (rNumE (b := x11.r) (e := x11.e) (by omega)) rfl rfl (ClO.RO _ _) (fun x => ClO.RO _ _) rfl (fun x => Cl.int _ _) fun x12 h12 => ?_
    have l12 := h12.2.length_le
    have e12 := e11.num h12.1
    (conv => arg 4; whnf); repeat (refine ⟨rfl, ?_⟩; conv => arg 4; whnf)
    have g3 : ∀ y : Req, y.good p → x3.v = y.client ∧ x3.r = y.u2 ∧ x3.e = 0 := fun y hy => by
      obtain ⟨⟨q1, q2, q3, q4, q5, q6⟩, -⟩ := req_lens hy.c
      exact step_bytes (s := y.client) (t := y.u2) h3.1 ⟨(g2 y hy).2.2.1, (g2 y hy).2.2.2⟩ (by omega) (by omega)
    have g4 : ∀ y : Req, y.good p → x4.v = y.topic ∧ x4.r = y.u3 ∧ x4.e = 0 := fun y hy => by
      obtain ⟨⟨q1, q2, q3, q4, q5, q6⟩, -⟩ := req_lens hy.c
      exact step_bytes (s := y.topic) (t := y.u3) h4.1 ⟨(g3 y hy).2.1, (g3 y hy).2.2⟩ (by omega) (by omega)
    have g5 : ∀ y : Req, y.good p → x5.v = y.part ∧ x5.r = y.u4 ∧ x5.e = 0 := fun y hy => step_num (t := y.u4) h5.1 ⟨(g4 y hy).2.1, (g4 y hy).2.2⟩ hy.o.2.2.1
    have g6 : ∀ y : Req, y.good p → x6.v = y.off ∧ x6.r = y.u5 ∧ x6.e = 0 := fun y hy => step_num (t := y.u5) h6.1 ⟨(g5 y hy).2.1, (g5 y hy).2.2⟩ hy.o.2.2.2.1
    have g7 : ∀ y : Req, y.good p → x7.v = y.time ∧ x7.r = y.u6 ∧ x7.e = 0 := fun y hy => step_num (t := y.u6) h7.1 ⟨(g6 y hy).2.1, (g6 y hy).2.2⟩ hy.o.2.2.2.2.1
    have g8 : ∀ y : Req, y.good p → x8.v = y.max ∧ x8.r = y.u7 ∧ x8.e = 0 := fun y hy => step_num (t := y.u7) h8.1 ⟨(g7 y hy).2.1, (g7 y hy).2.2⟩ hy.o.2.2.2.2.2.1
    have g9 : ∀ y : Req, y.good p → x9.v = y.group ∧ x9.r = y.u8 ∧ x9.e = 0 := fun y hy => by
      obtain ⟨⟨q1, q2, q3, q4, q5, q6⟩, -⟩ := req_lens hy.c
      exact step_bytes (s := y.group) (t := y.u8) h9.1 ⟨(g8 y hy).2.1, (g8 y hy).2.2⟩ (by omega) (by omega)
    have g10 : ∀ y : Req, y.good p → x10.v = y.member ∧ x10.r = y.u9 ∧ x10.e = 0 := fun y hy => by
      obtain ⟨⟨q1, q2, q3, q4, q5, q6⟩, -⟩ := req_lens hy.c
      exact step_bytes (s := y.member) (t := y.u9) h10.1 ⟨(g9 y hy).2.1, (g9 y hy).2.2⟩ (by omega) (by omega)
    have g11 : ∀ y : Req, y.good p → x11.v = y.gen ∧ x11.r = y.u10 ∧ x11.e = 0 := fun y hy => step_num (t := y.u10) h11.1 ⟨(g10 y hy).2.1, (g10 y hy).2.2⟩ hy.o.2.2.2.2.2.2
    have g12 : ∀ y : Req, y.good p → x12.v = (y.names.length : Int) ∧ x12.r = y.u11 ∧ x12.e = 0 := fun y hy => step_num (n := (y.names.length : Int)) (t := y.u11) h12.1 ⟨(g11 y hy).2.1, (g11 y hy).2.2⟩ (by obtain ⟨⟨q1, q2, q3, q4, q5, q6⟩, -⟩ := req_lens hy.c; unfold I64; omega)
    have gn : ∀ y : Req, y.good p → 0 ≤ x12.v ∧ x12.v ≤ 30 := fun y hy => by
      obtain ⟨⟨q1, q2, q3, q4, q5, q6⟩, -⟩ := req_lens hy.c
      have := (g12 y hy).1
      omega
    have gx : ∀ y : Req, y.good p → x1.v = y.kind ∧ x2.v = y.corr ∧ x3.v = y.client ∧ x4.v = y.topic ∧ x5.v = y.part ∧ x6.v = y.off ∧ x7.v = y.time ∧ x8.v = y.max ∧ x9.v = y.group ∧ x10.v = y.member ∧ x11.v = y.gen := fun y hy =>
      ⟨(g2 y hy).1, (g2 y hy).2.1, (g3 y hy).1, (g4 y hy).1, (g5 y hy).1, (g6 y hy).1, (g7 y hy).1, (g8 y hy).1, (g9 y hy).1, (g10 y hy).1, (g11 y hy).1⟩
    have n5 := num_i64 h5.1
    have n6 := num_i64 h6.1
    have n7 := num_i64 h7.1
    have n8 := num_i64 h8.1
    have n11 := num_i64 h11.1
    have nz := num_zero h12.1
    refine call1 1 rErrE rfl rfl (ClO.RO _ _) (ClO.RO _ _) rfl (Cl.int _ _) ?_
    (conv => arg 4; whnf); repeat (refine ⟨rfl, ?_⟩; conv => arg 4; whnf)
    have hkn : 6 ≤ p.length → ¬ (fx p 0 2 < 1 ∨ 14 < fx p 0 2) := fun hp => by rw [← gk hp]; exact hk
    clear h1 h2 h3 h4 h5 h6 h7 h8 h9 h10 h11 h12 g3 g4 g5 g6 g7 g8 g9 g10 g11
    refine ⟨fun hn => ?_, fun hn => ?_⟩
    · simp only [Bool.cond_true_left, Bool.cond_false_right, Bool.or_eq_true, Bool.and_eq_true, Bool.not_eq_true', decide_eq_true_eq, beq_iff_eq, bne_iff_ne, u8s_length, Bool.not_eq_true, gt_iff_lt, ge_iff_le] at hn
      (conv => arg 4; whnf); repeat (refine ⟨rfl, ?_⟩; conv => arg 4; whnf)
      refine ⟨⟨⟨x1.v, x2.v, x3.v, x4.v, x5.v, x6.v, x7.v, x8.v, x9.v, x10.v, x11.v, [], []⟩, 2⟩, ⟨fun (h : (2 : Int) = 0) => absurd h (by decide), fun y hy => ?_, .inr (.inr (.inl rfl)), fun hp => ⟨fun (h : (2 : Int) = 16) => absurd h (by decide), fun h => absurd h (hkn hp)⟩⟩, by decide, by (repeat' (first | with_reducible exact Le.refl _ _ | exact Le.bl | exact Le.lb | exact Le.nils | exact Le.nilsFull | exact Le.none | exact LeL.nil _ | refine LeL.cons ?_ ?_ | refine Le.tup ?_ | refine Le.agg ?_ | exact Le.refl _ _ | exact LeL.refl _ _)), trivial, (by (repeat' (first | with_reducible assumption | exact ClL.nil | exact Cl.int _ _ | exact Cl.bool _ | exact Cl.bl _ | exact Cl.bs _ | exact Cl.str _ | exact Cl.nils | exact Cl.nilp | exact Cl.rec _ | exact Cl.bat _ | exact Cl.recsV _ | exact Cl.strsV _ | exact Cl.intsV _ | exact Cl.req _ | exact Cl.rsp _ | exact Cl.reqA _ | exact Cl.rspA _ | exact Cl.batsV _ | exact Cl.getB _ | exact Cl.encA _ | exact Cl.firstA _ | refine ClL.cons ?_ ?_ | refine Cl.tup ?_ | refine Cl.agg ?_ | exact ClO.RO _ _)) : Cl _) _, trivial⟩
      have := gn y hy; omega
    · rw [← Bool.not_eq_true] at hn; simp only [Bool.cond_true_left, Bool.cond_false_right, Bool.or_eq_true, Bool.and_eq_true, Bool.not_eq_true', decide_eq_true_eq, beq_iff_eq, bne_iff_ne, u8s_length, gt_iff_lt, ge_iff_le] at hn
      (conv => arg 4; whnf); repeat (refine ⟨rfl, ?_⟩; conv => arg 4; whnf)
      have hn30 : x12.v ≤ 30 := by
        by_cases q : x12.e = 0
        · omega
        · have := nz q; omega
      refine tri_loopG (ι := RrI p x12.v x12.r) (fun a => ⟨[(66, .int .i64 a.i), (65, .int .i64 x12.v), (4, .ptr 1 0), (3, .int .i64 0), (2, .ptr 0 0), (0, bs p)], [(2, .tip a.s), (1, RO a.r a.e), (0, .cells [.int .i64 x1.v, .int .i64 x2.v, .str x3.v, .str x4.v, .int .i64 x5.v, .int .i64 x6.v, .int .i64 x7.v, .int .i64 x8.v, .str x9.v, .str x10.v, .int .i64 x11.v, .sl (.tok 2 a.s) 0 (strs a.l), .nils])], 3, 100⟩) (fun a => (x12.v - a.i).toNat) ⟨0, 0, x12.r, x12.e, [], by omega, rfl, Nat.le_refl _, e12, fun y hy => ⟨rfl, (g12 y hy).2.1, (g12 y hy).2.2⟩⟩ (WkG.tok rfl rfl ⟨Le.refl _ _, Le.refl _ _, Le.refl _ _, Le.refl _ _, Le.refl _ _, Le.refl _ _, trivial⟩ ⟨⟨_, rfl, rfl⟩, ⟨_, rfl, LeO.refl _ _⟩, ⟨_, rfl, (LeL.cons (Le.refl _ _) (LeL.cons (Le.refl _ _) (LeL.cons (Le.refl _ _) (LeL.cons (Le.refl _ _) (LeL.cons (Le.refl _ _) (LeL.cons (Le.refl _ _) (LeL.cons (Le.refl _ _) (LeL.cons (Le.refl _ _) (LeL.cons (Le.refl _ _) (LeL.cons (Le.refl _ _) (LeL.cons (Le.refl _ _) (LeL.cons (Le.nilsTok rfl) (LeL.refl _ _)))))))))))))⟩, trivial⟩ ⟨rfl, rfl, rfl, rfl, rfl, Cl.bs p _, trivial⟩ ⟨⟨by decide, rfl⟩, ⟨by decide, ClO.RO _ _ _⟩, ⟨by decide, rfl⟩, trivial⟩) ?_
      rintro ⟨i, s, r, e, l, hi, hll, hrl, he3, hg⟩
      dsimp only
      conv => arg 4; whnf
      refine ⟨fun h => ?_, fun h => ?_⟩
      · have h : (i : Int) < x12.v := by simpa using h
        (conv => arg 4; whnf); repeat (refine ⟨rfl, ?_⟩; conv => arg 4; whnf)
        refine call1E 1 (rTextE (b := r) (e := e) (most := 100) (by omega)) rfl rfl (ClO.RO _ _) (fun x => ClO.RO _ _) rfl (fun x => Cl.str _) fun z hz => ?_
        have lz := hz.2.1.length_le
        have ez := he3.bytes hz.1
        (conv => arg 4; whnf); repeat (refine ⟨rfl, ?_⟩; conv => arg 4; whnf)
        refine ⟨⟨rfl, sizeOk 16 rfl ?_⟩, ?_⟩
        · rw [List.length_append, strs_length, hll]; simp only [List.length_cons, List.length_nil]; omega
        (conv => arg 4; whnf); repeat (refine ⟨rfl, ?_⟩; conv => arg 4; whnf)
        refine ⟨⟨i + 1, s + 1, z.r, z.e, l ++ [z.v], by omega, by rw [List.length_append, hll]; rfl, by omega, ez, fun y hy => ?_⟩, by show (x12.v - ((i + 1 : Nat) : Int)).toNat < (x12.v - (i : Int)).toNat; omega, WkG.of rfl rfl ⟨Le.of_eq (succ_i64 (by omega)), Le.refl _ _, Le.refl _ _, Le.refl _ _, Le.refl _ _, Le.refl _ _, trivial⟩ ⟨⟨_, rfl, LeO.refl _ _⟩, ⟨_, rfl, LeO.refl _ _⟩, ⟨_, rfl, ?_⟩, trivial⟩ ⟨rfl, rfl, rfl, rfl, rfl, Cl.bs p _, trivial⟩ ⟨⟨by decide, rfl⟩, ⟨by decide, ClO.RO _ _ _⟩, ⟨by decide, ?_⟩, trivial⟩⟩
        · obtain ⟨g1, g2, g3⟩ := hg y hy
          have hln : x12.v = (y.names.length : Int) := (g12 y hy).1
          obtain ⟨w, hw⟩ : ∃ w, y.names[i]? = some w := ⟨_, List.getElem?_eq_getElem (by omega)⟩
          have hwl := (req_lens hy.c).2 w (List.mem_of_getElem? hw)
          unfold Long at hwl
          have hd : textsB (y.names.drop i) = lenB w ++ textsB (y.names.drop (i + 1)) := textsB_drop hw
          obtain ⟨z1, z2, z3⟩ := step_bytes (s := w) (t := textsB (y.names.drop (i + 1)) ++ lenB y.data) hz.1 ⟨by rw [g2, hd, List.append_assoc], g3⟩ (by omega) (by omega)
          exact ⟨by rw [g1, z1, List.take_add_one, hw]; rfl, z2, z3⟩
        · have e : strs (l ++ [z.v]) = strs l ++ [.str z.v] := by simp [strs]
          rw [e]
          exact LeL.refl _ _
        · simp only [renO, renL, ren, ClL.strs _ _, renP, cut_lt (show 2 < 3 by decide)]
      · have h : ¬ (i : Int) < x12.v := by simpa using h
        conv => arg 4; whnf
        refine fin_exit ?_
        show holds _ _ _ _
        conv => arg 4; whnf
        refine call1E 1 (rBytesE (b := r) (e := e) (most := 65536) (by omega)) rfl rfl (ClO.RO _ _) (fun x => ClO.RO _ _) rfl (fun x => Cl.bs _) fun z hz => ?_
        have ez := he3.bytes hz.1
        (conv => arg 4; whnf); repeat (refine ⟨rfl, ?_⟩; conv => arg 4; whnf)
        refine call1 1 rErrE rfl rfl (ClO.RO _ _) (ClO.RO _ _) rfl (Cl.int _ _) ?_
        (conv => arg 4; whnf); repeat (refine ⟨rfl, ?_⟩; conv => arg 4; whnf)
        have gd : ∀ y : Req, y.good p → l = y.names ∧ z.v = y.data ∧ z.e = 0 := fun y hy => by
          obtain ⟨g1, g2, g3⟩ := hg y hy
          have hln : x12.v = (y.names.length : Int) := (g12 y hy).1
          obtain ⟨⟨q1, q2, q3, q4, q5, q6⟩, -⟩ := req_lens hy.c
          have hi' : i = y.names.length := by omega
          rw [hi', List.take_length] at g1
          rw [hi', List.drop_length] at g2
          obtain ⟨z1, z2, z3⟩ := step_bytes (s := y.data) (t := []) hz.1 ⟨by rw [g2, List.append_nil]; rfl, g3⟩ (by omega) (by omega)
          exact ⟨g1, z1, z3⟩
        refine ⟨fun hq => ?_, fun hq => ?_⟩
        · have hq : z.e ≠ 0 := by simpa using hq
          (conv => arg 4; whnf); repeat (refine ⟨rfl, ?_⟩; conv => arg 4; whnf)
          refine call1 1 rErrE rfl rfl (ClO.RO _ _) (ClO.RO _ _) rfl (Cl.int _ _) ?_
          (conv => arg 4; whnf); repeat (refine ⟨rfl, ?_⟩; conv => arg 4; whnf)
          refine ⟨⟨⟨x1.v, x2.v, x3.v, x4.v, x5.v, x6.v, x7.v, x8.v, x9.v, x10.v, x11.v, l, z.v⟩, z.e⟩, ⟨fun h => absurd h hq, fun y hy => absurd (gd y hy).2.2 hq, .inr ez, fun hp => ⟨fun (h : z.e = 16) => ?_, fun h => absurd h (hkn hp)⟩⟩, by decide, by (repeat' (first | with_reducible exact Le.refl _ _ | exact Le.bl | exact Le.lb | exact Le.nils | exact Le.nilsFull | exact Le.none | exact LeL.nil _ | refine LeL.cons ?_ ?_ | refine Le.tup ?_ | refine Le.agg ?_ | exact Le.refl _ _ | exact LeL.refl _ _)), trivial, (by (repeat' (first | with_reducible assumption | exact ClL.nil | exact Cl.int _ _ | exact Cl.bool _ | exact Cl.bl _ | exact Cl.bs _ | exact Cl.str _ | exact Cl.nils | exact Cl.nilp | exact Cl.rec _ | exact Cl.bat _ | exact Cl.recsV _ | exact Cl.strsV _ | exact Cl.intsV _ | exact Cl.req _ | exact Cl.rsp _ | exact Cl.reqA _ | exact Cl.rspA _ | exact Cl.batsV _ | exact Cl.getB _ | exact Cl.encA _ | exact Cl.firstA _ | refine ClL.cons ?_ ?_ | refine Cl.tup ?_ | refine Cl.agg ?_ | exact ClO.RO _ _)) : Cl _) _, trivial⟩
          unfold E3 at ez
          omega
        · have hq : z.e = 0 := by simpa using hq
          (conv => arg 4; whnf); repeat (refine ⟨rfl, ?_⟩; conv => arg 4; whnf)
          obtain ⟨X, hX⟩ : ∃ X : Req, X = ⟨x1.v, x2.v, x3.v, x4.v, x5.v, x6.v, x7.v, x8.v, x9.v, x10.v, x11.v, l, z.v⟩ := ⟨_, rfl⟩
          have hav : ∀ h, Le h (.agg [.int .i64 x1.v, .int .i64 x2.v, .str x3.v, .str x4.v, .int .i64 x5.v, .int .i64 x6.v, .int .i64 x7.v, .int .i64 x8.v, .str x9.v, .str x10.v, .int .i64 x11.v, .sl (.tok 2 s) 0 (strs l), bs z.v]) X.av := fun h => by rw [hX]; show Le _ _ (.agg _); (repeat' (first | with_reducible exact Le.refl _ _ | exact Le.bl | exact Le.lb | exact Le.nils | exact Le.nilsFull | exact Le.none | exact LeL.nil _ | refine LeL.cons ?_ ?_ | refine Le.tup ?_ | refine Le.agg ?_ | exact Le.refl _ _ | exact LeL.refl _ _))
          have hok : X.ok := by
            rw [hX]
            exact ⟨by unfold I64; simp only; omega, by unfold I64; simp only; omega, n5, n6, n7, n8, n11⟩
          have hXl : X.names.length ≤ 1000000000000 := by rw [hX]; simp only; omega
          have hgood : ∀ y : Req, y.good p → X = y := fun y hy => by
            obtain ⟨q1, q2, q3, q4, q5, q6, q7, q8, q9, q10, q11⟩ := gx y hy
            obtain ⟨q12, q13, -⟩ := gd y hy
            rw [hX, q1, q2, q3, q4, q5, q6, q7, q8, q9, q10, q11, q12, q13]
          refine holds_args (args' := [X.av]) ⟨hav _, trivial⟩ ?_
          refine call0 (reqEnc hok hXl) (by (repeat' (first | with_reducible assumption | exact ClL.nil | exact Cl.int _ _ | exact Cl.bool _ | exact Cl.bl _ | exact Cl.bs _ | exact Cl.str _ | exact Cl.nils | exact Cl.nilp | exact Cl.rec _ | exact Cl.bat _ | exact Cl.recsV _ | exact Cl.strsV _ | exact Cl.intsV _ | exact Cl.req _ | exact Cl.rsp _ | exact Cl.reqA _ | exact Cl.rspA _ | exact Cl.batsV _ | exact Cl.getB _ | exact Cl.encA _ | exact Cl.firstA _ | refine ClL.cons ?_ ?_ | refine Cl.tup ?_ | refine Cl.agg ?_ | exact ClO.RO _ _))) (by (repeat' (first | with_reducible assumption | exact ClL.nil | exact Cl.int _ _ | exact Cl.bool _ | exact Cl.bl _ | exact Cl.bs _ | exact Cl.str _ | exact Cl.nils | exact Cl.nilp | exact Cl.rec _ | exact Cl.bat _ | exact Cl.recsV _ | exact Cl.strsV _ | exact Cl.intsV _ | exact Cl.req _ | exact Cl.rsp _ | exact Cl.reqA _ | exact Cl.rspA _ | exact Cl.batsV _ | exact Cl.getB _ | exact Cl.encA _ | exact Cl.firstA _ | refine ClL.cons ?_ ?_ | refine Cl.tup ?_ | refine Cl.agg ?_ | exact ClO.RO _ _))) ?_
          (conv => arg 4; whnf); repeat (refine ⟨rfl, ?_⟩; conv => arg 4; whnf)
          refine ⟨fun hk2 => ?_, fun hk2 => ?_⟩
          · have hk2 : X.chk ≠ 0 := by simpa using hk2
            (conv => arg 4; whnf); repeat (refine ⟨rfl, ?_⟩; conv => arg 4; whnf)
            refine ⟨⟨X, 2⟩, ⟨fun (h : (2 : Int) = 0) => absurd h (by decide), fun y hy => ?_, .inr (.inr (.inl rfl)), fun hp => ⟨fun (h : (2 : Int) = 16) => absurd h (by decide), fun h => absurd h (hkn hp)⟩⟩, by decide, Le.tup (LeL.cons (hav _) (LeL.refl _ _)), trivial, (by (repeat' (first | with_reducible assumption | exact ClL.nil | exact Cl.int _ _ | exact Cl.bool _ | exact Cl.bl _ | exact Cl.bs _ | exact Cl.str _ | exact Cl.nils | exact Cl.nilp | exact Cl.rec _ | exact Cl.bat _ | exact Cl.recsV _ | exact Cl.strsV _ | exact Cl.intsV _ | exact Cl.req _ | exact Cl.rsp _ | exact Cl.reqA _ | exact Cl.rspA _ | exact Cl.batsV _ | exact Cl.getB _ | exact Cl.encA _ | exact Cl.firstA _ | refine ClL.cons ?_ ?_ | refine Cl.tup ?_ | refine Cl.agg ?_ | exact ClO.RO _ _)) : Cl _) _, trivial⟩
            have e := hgood y hy
            rw [e] at hk2
            exact absurd hy.c hk2
          · have hk2 : X.chk = 0 := by simpa using hk2
            (conv => arg 4; whnf); repeat (refine ⟨rfl, ?_⟩; conv => arg 4; whnf)
            refine call0 bytesEqual (by (repeat' (first | with_reducible assumption | exact ClL.nil | exact Cl.int _ _ | exact Cl.bool _ | exact Cl.bl _ | exact Cl.bs _ | exact Cl.str _ | exact Cl.nils | exact Cl.nilp | exact Cl.rec _ | exact Cl.bat _ | exact Cl.recsV _ | exact Cl.strsV _ | exact Cl.intsV _ | exact Cl.req _ | exact Cl.rsp _ | exact Cl.reqA _ | exact Cl.rspA _ | exact Cl.batsV _ | exact Cl.getB _ | exact Cl.encA _ | exact Cl.firstA _ | refine ClL.cons ?_ ?_ | refine Cl.tup ?_ | refine Cl.agg ?_ | exact ClO.RO _ _))) (by (repeat' (first | with_reducible assumption | exact ClL.nil | exact Cl.int _ _ | exact Cl.bool _ | exact Cl.bl _ | exact Cl.bs _ | exact Cl.str _ | exact Cl.nils | exact Cl.nilp | exact Cl.rec _ | exact Cl.bat _ | exact Cl.recsV _ | exact Cl.strsV _ | exact Cl.intsV _ | exact Cl.req _ | exact Cl.rsp _ | exact Cl.reqA _ | exact Cl.rspA _ | exact Cl.batsV _ | exact Cl.getB _ | exact Cl.encA _ | exact Cl.firstA _ | refine ClL.cons ?_ ?_ | refine Cl.tup ?_ | refine Cl.agg ?_ | exact ClO.RO _ _))) ?_
            (conv => arg 4; whnf); repeat (refine ⟨rfl, ?_⟩; conv => arg 4; whnf)
            rw [X.out_yes hk2]
            refine ⟨fun hk3 => ?_, fun hk3 => ?_⟩
            · have hk3 : X.enc ≠ p := by simpa using hk3
              (conv => arg 4; whnf); repeat (refine ⟨rfl, ?_⟩; conv => arg 4; whnf)
              refine ⟨⟨X, 2⟩, ⟨fun (h : (2 : Int) = 0) => absurd h (by decide), fun y hy => ?_, .inr (.inr (.inl rfl)), fun hp => ⟨fun (h : (2 : Int) = 16) => absurd h (by decide), fun h => absurd h (hkn hp)⟩⟩, by decide, Le.tup (LeL.cons (hav _) (LeL.refl _ _)), trivial, (by (repeat' (first | with_reducible assumption | exact ClL.nil | exact Cl.int _ _ | exact Cl.bool _ | exact Cl.bl _ | exact Cl.bs _ | exact Cl.str _ | exact Cl.nils | exact Cl.nilp | exact Cl.rec _ | exact Cl.bat _ | exact Cl.recsV _ | exact Cl.strsV _ | exact Cl.intsV _ | exact Cl.req _ | exact Cl.rsp _ | exact Cl.reqA _ | exact Cl.rspA _ | exact Cl.batsV _ | exact Cl.getB _ | exact Cl.encA _ | exact Cl.firstA _ | refine ClL.cons ?_ ?_ | refine Cl.tup ?_ | refine Cl.agg ?_ | exact ClO.RO _ _)) : Cl _) _, trivial⟩
              have e := hgood y hy
              rw [e] at hk3
              exact absurd hy.e hk3
            · have hk3 : X.enc = p := by simpa using hk3
              (conv => arg 4; whnf); repeat (refine ⟨rfl, ?_⟩; conv => arg 4; whnf)
              exact ⟨⟨X, 0⟩, ⟨fun _ => ⟨hk2, hok, hk3⟩, fun y hy => ⟨rfl, hgood y hy⟩, .inr (.inl rfl), fun hp => ⟨fun (h : (0 : Int) = 16) => absurd h (by decide), fun h => absurd h (hkn hp)⟩⟩, by decide, Le.tup (LeL.cons (hav _) (LeL.refl _ _)), trivial, (by (repeat' (first | with_reducible assumption | exact ClL.nil | exact Cl.int _ _ | exact Cl.bool _ | exact Cl.bl _ | exact Cl.bs _ | exact Cl.str _ | exact Cl.nils | exact Cl.nilp | exact Cl.rec _ | exact Cl.bat _ | exact Cl.recsV _ | exact Cl.strsV _ | exact Cl.intsV _ | exact Cl.req _ | exact Cl.rsp _ | exact Cl.reqA _ | exact Cl.rspA _ | exact Cl.batsV _ | exact Cl.getB _ | exact Cl.encA _ | exact Cl.firstA _ | refine ClL.cons ?_ ?_ | refine Cl.tup ?_ | refine Cl.agg ?_ | exact ClO.RO _ _)) : Cl _) _, trivial⟩
end Go.Proofs.Ytbehegpahiefaaa.Pr

namespace Go.Proofs.Ytbehegpahiefaaa.Pr
set_option maxRecDepth 100000
set_option maxHeartbeats 80000000
open Go.Sym

def Req.none : Req := ⟨0, 0, [], [], 0, 0, 0, 0, [], [], 0, [], []⟩

open Classical in
noncomputable def decR (p : List UInt8) : Req := if h : ∃ r : Req, r.good p then Classical.choose h else Req.none

/-- Which error is told: 0 just for a request. -/
def ErrOk (p : List UInt8) (e : Int) : Prop :=
  if 131072 < p.length then e = 3 else if p.length < 6 then e = 2 else if fx p 0 2 < 1 ∨ 14 < fx p 0 2 then e = 16 else (e = 0 ∧ (decR p).good p) ∨ ((e = 2 ∨ e = 3) ∧ ¬ ∃ r : Req, r.good p)

theorem good_size {r : Req} {p : List UInt8} (h : r.good p) : p.length ≤ 131072 ∧ 6 ≤ p.length ∧ 1 ≤ fx p 0 2 ∧ fx p 0 2 ≤ 14 := by
  obtain ⟨q1, q2, q3, q4⟩ := good_six h
  obtain ⟨c1, c2, c3, c4, -⟩ := Req.chk_ok h.c
  obtain ⟨⟨l1, l2, l3, l4, l5, l6⟩, hn⟩ := req_lens h.c
  refine ⟨?_, q1, by omega, by omega⟩
  rw [← h.e]
  have p1 := lenB_len (l := r.client) (by omega)
  have p2 := lenB_len (l := r.topic) (by omega)
  have p3 := lenB_len (l := r.group) (by omega)
  have p4 := lenB_len (l := r.member) (by omega)
  have p5 := lenB_len (l := r.data) (by omega)
  have p6 := textsB_len hn
  have p7 := put_len (n := (r.names.length : Int)) (by unfold I64; omega)
  have p8 := put_len h.o.2.2.1
  have p9 := put_len h.o.2.2.2.1
  have p10 := put_len h.o.2.2.2.2.1
  have p11 := put_len h.o.2.2.2.2.2.1
  have p12 := put_len h.o.2.2.2.2.2.2
  simp only [Req.enc, Req.head, List.length_append, fixed_len]
  omega

theorem decR_none {p : List UInt8} (h : ¬ ∃ r : Req, r.good p) : decR p = Req.none := by rw [decR, dif_neg h]
theorem decR_good {p : List UInt8} (h : ∃ r : Req, r.good p) : (decR p).good p := by
  unfold decR
  rw [dif_pos h]
  exact Classical.choose_spec h

theorem dec_of {p : List UInt8} {x : RrX} (h : RdOk p x) (h1 : ¬ 131072 < p.length) (h2 : ¬ p.length < 6) : ErrOk p x.e ∧ (x.e = 0 → x.r = decR p) ∧ (x.e ≠ 0 → decR p = Req.none) := by
  obtain ⟨a1, a2, a3, a4⟩ := h
  have a4 := a4 (by omega)
  by_cases hg : ∃ r : Req, r.good p
  · have hd := decR_good hg
    obtain ⟨e0, e1⟩ := a2 _ hd
    obtain ⟨-, -, k1, k2⟩ := good_size hd
    refine ⟨?_, fun _ => e1, fun h => absurd e0 h⟩
    unfold ErrOk
    rw [if_neg h1, if_neg h2, if_neg (by omega)]
    exact .inl ⟨e0, hd⟩
  · have hne : x.e ≠ 0 := fun h => hg ⟨_, a1 h⟩
    refine ⟨?_, fun h => absurd h hne, fun _ => decR_none hg⟩
    unfold ErrOk
    rw [if_neg h1, if_neg h2]
    by_cases hk : fx p 0 2 < 1 ∨ 14 < fx p 0 2
    · rw [if_pos hk]; exact a4.2 hk
    · rw [if_neg hk]
      refine .inr ⟨?_, hg⟩
      have : x.e ≠ 16 := fun h => hk (a4.1 h)
      unfold E3 at a3
      omega

theorem reqDec {p : List UInt8} (hl : p.length ≤ 1000000000) : CallOK Try.prog 36 [bs p] [] 0
    (fun a h m => ∃ e : Int, ErrOk p e ∧ Out (.tup [(decR p).av, .int .i64 (corrOf p), .int .i64 e]) [] 0 a h m) := by
  refine CallOK.fitE (by decide) ?_
  refine callOK Try.call36 Try.func36 Try.ntmps36 rfl ?_
  have no : ∀ h, Le h (.agg [.int .i64 0, .int .i64 0, .str [], .str [], .int .i64 0, .int .i64 0, .int .i64 0, .int .i64 0, .str [], .str [], .int .i64 0, .nils, .nils]) Req.none.av := fun h => by show Le _ _ (.agg _); (repeat' (first | with_reducible exact Le.refl _ _ | exact Le.bl | exact Le.lb | exact Le.nils | exact Le.nilsFull | exact Le.none | exact LeL.nil _ | refine LeL.cons ?_ ?_ | refine Le.tup ?_ | refine Le.agg ?_ | exact Le.refl _ _ | exact LeL.refl _ _))
  conv => arg 4; whnf
  refine call0 (corrP hl) (by (repeat' (first | with_reducible assumption | exact ClL.nil | exact Cl.int _ _ | exact Cl.bool _ | exact Cl.bl _ | exact Cl.bs _ | exact Cl.str _ | exact Cl.nils | exact Cl.nilp | exact Cl.rec _ | exact Cl.bat _ | exact Cl.recsV _ | exact Cl.strsV _ | exact Cl.intsV _ | exact Cl.req _ | exact Cl.rsp _ | exact Cl.reqA _ | exact Cl.rspA _ | exact Cl.batsV _ | exact Cl.getB _ | exact Cl.encA _ | exact Cl.firstA _ | refine ClL.cons ?_ ?_ | refine Cl.tup ?_ | refine Cl.agg ?_ | exact ClO.RO _ _))) (by (repeat' (first | with_reducible assumption | exact ClL.nil | exact Cl.int _ _ | exact Cl.bool _ | exact Cl.bl _ | exact Cl.bs _ | exact Cl.str _ | exact Cl.nils | exact Cl.nilp | exact Cl.rec _ | exact Cl.bat _ | exact Cl.recsV _ | exact Cl.strsV _ | exact Cl.intsV _ | exact Cl.req _ | exact Cl.rsp _ | exact Cl.reqA _ | exact Cl.rspA _ | exact Cl.batsV _ | exact Cl.getB _ | exact Cl.encA _ | exact Cl.firstA _ | refine ClL.cons ?_ ?_ | refine Cl.tup ?_ | refine Cl.agg ?_ | exact ClO.RO _ _))) ?_
  (conv => arg 4; whnf); repeat (refine ⟨rfl, ?_⟩; conv => arg 4; whnf)
  refine ⟨fun h1 => ?_, fun h1 => ?_⟩
  · rw [u8s_length] at h1
    have h1 : 131072 < p.length := by simp at h1; omega
    have hd : decR p = Req.none := decR_none fun ⟨r, hr⟩ => by have := (good_size hr).1; omega
    (conv => arg 4; whnf); repeat (refine ⟨rfl, ?_⟩; conv => arg 4; whnf)
    refine ⟨3, by unfold ErrOk; rw [if_pos h1], by decide, ?_, trivial, (by (repeat' (first | with_reducible assumption | exact ClL.nil | exact Cl.int _ _ | exact Cl.bool _ | exact Cl.bl _ | exact Cl.bs _ | exact Cl.str _ | exact Cl.nils | exact Cl.nilp | exact Cl.rec _ | exact Cl.bat _ | exact Cl.recsV _ | exact Cl.strsV _ | exact Cl.intsV _ | exact Cl.req _ | exact Cl.rsp _ | exact Cl.reqA _ | exact Cl.rspA _ | exact Cl.batsV _ | exact Cl.getB _ | exact Cl.encA _ | exact Cl.firstA _ | refine ClL.cons ?_ ?_ | refine Cl.tup ?_ | refine Cl.agg ?_ | exact ClO.RO _ _)) : Cl _) _, trivial⟩
    rw [hd]
    exact Le.tup (LeL.cons (no _) (LeL.refl _ _))
  · rw [u8s_length] at h1
    have h1 : ¬ 131072 < p.length := by simp at h1; omega
    (conv => arg 4; whnf); repeat (refine ⟨rfl, ?_⟩; conv => arg 4; whnf)
    refine ⟨fun h2 => ?_, fun h2 => ?_⟩
    · rw [u8s_length] at h2
      have h2 : p.length < 6 := by simp at h2; omega
      have hd : decR p = Req.none := decR_none fun ⟨r, hr⟩ => by have := (good_size hr).2.1; omega
      (conv => arg 4; whnf); repeat (refine ⟨rfl, ?_⟩; conv => arg 4; whnf)
      refine ⟨2, by unfold ErrOk; rw [if_neg h1, if_pos h2], by decide, ?_, trivial, (by (repeat' (first | with_reducible assumption | exact ClL.nil | exact Cl.int _ _ | exact Cl.bool _ | exact Cl.bl _ | exact Cl.bs _ | exact Cl.str _ | exact Cl.nils | exact Cl.nilp | exact Cl.rec _ | exact Cl.bat _ | exact Cl.recsV _ | exact Cl.strsV _ | exact Cl.intsV _ | exact Cl.req _ | exact Cl.rsp _ | exact Cl.reqA _ | exact Cl.rspA _ | exact Cl.batsV _ | exact Cl.getB _ | exact Cl.encA _ | exact Cl.firstA _ | refine ClL.cons ?_ ?_ | refine Cl.tup ?_ | refine Cl.agg ?_ | exact ClO.RO _ _)) : Cl _) _, trivial⟩
      rw [hd]
      exact Le.tup (LeL.cons (no _) (LeL.refl _ _))
    · rw [u8s_length] at h2
      have h2 : ¬ p.length < 6 := by simp at h2; omega
      (conv => arg 4; whnf); repeat (refine ⟨rfl, ?_⟩; conv => arg 4; whnf)
      refine call0E (reqRead hl) (by (repeat' (first | with_reducible assumption | exact ClL.nil | exact Cl.int _ _ | exact Cl.bool _ | exact Cl.bl _ | exact Cl.bs _ | exact Cl.str _ | exact Cl.nils | exact Cl.nilp | exact Cl.rec _ | exact Cl.bat _ | exact Cl.recsV _ | exact Cl.strsV _ | exact Cl.intsV _ | exact Cl.req _ | exact Cl.rsp _ | exact Cl.reqA _ | exact Cl.rspA _ | exact Cl.batsV _ | exact Cl.getB _ | exact Cl.encA _ | exact Cl.firstA _ | refine ClL.cons ?_ ?_ | refine Cl.tup ?_ | refine Cl.agg ?_ | exact ClO.RO _ _))) (fun x => by (repeat' (first | with_reducible assumption | exact ClL.nil | exact Cl.int _ _ | exact Cl.bool _ | exact Cl.bl _ | exact Cl.bs _ | exact Cl.str _ | exact Cl.nils | exact Cl.nilp | exact Cl.rec _ | exact Cl.bat _ | exact Cl.recsV _ | exact Cl.strsV _ | exact Cl.intsV _ | exact Cl.req _ | exact Cl.rsp _ | exact Cl.reqA _ | exact Cl.rspA _ | exact Cl.batsV _ | exact Cl.getB _ | exact Cl.encA _ | exact Cl.firstA _ | refine ClL.cons ?_ ?_ | refine Cl.tup ?_ | refine Cl.agg ?_ | exact ClO.RO _ _))) fun x hx => ?_
      obtain ⟨d1, d2, d3⟩ := dec_of hx h1 h2
      (conv => arg 4; whnf); repeat (refine ⟨rfl, ?_⟩; conv => arg 4; whnf)
      refine ⟨fun h3 => ?_, fun h3 => ?_⟩
      · have h3 : x.e ≠ 0 := by simpa using h3
        (conv => arg 4; whnf); repeat (refine ⟨rfl, ?_⟩; conv => arg 4; whnf)
        refine ⟨x.e, d1, by decide, ?_, trivial, (by (repeat' (first | with_reducible assumption | exact ClL.nil | exact Cl.int _ _ | exact Cl.bool _ | exact Cl.bl _ | exact Cl.bs _ | exact Cl.str _ | exact Cl.nils | exact Cl.nilp | exact Cl.rec _ | exact Cl.bat _ | exact Cl.recsV _ | exact Cl.strsV _ | exact Cl.intsV _ | exact Cl.req _ | exact Cl.rsp _ | exact Cl.reqA _ | exact Cl.rspA _ | exact Cl.batsV _ | exact Cl.getB _ | exact Cl.encA _ | exact Cl.firstA _ | refine ClL.cons ?_ ?_ | refine Cl.tup ?_ | refine Cl.agg ?_ | exact ClO.RO _ _)) : Cl _) _, trivial⟩
        rw [d3 h3]
        exact Le.tup (LeL.cons (no _) (LeL.refl _ _))
      · have h3 : x.e = 0 := by simpa using h3
        (conv => arg 4; whnf); repeat (refine ⟨rfl, ?_⟩; conv => arg 4; whnf)
        refine ⟨0, by rw [← h3]; exact d1, by decide, ?_, trivial, (by (repeat' (first | with_reducible assumption | exact ClL.nil | exact Cl.int _ _ | exact Cl.bool _ | exact Cl.bl _ | exact Cl.bs _ | exact Cl.str _ | exact Cl.nils | exact Cl.nilp | exact Cl.rec _ | exact Cl.bat _ | exact Cl.recsV _ | exact Cl.strsV _ | exact Cl.intsV _ | exact Cl.req _ | exact Cl.rsp _ | exact Cl.reqA _ | exact Cl.rspA _ | exact Cl.batsV _ | exact Cl.getB _ | exact Cl.encA _ | exact Cl.firstA _ | refine ClL.cons ?_ ?_ | refine Cl.tup ?_ | refine Cl.agg ?_ | exact ClO.RO _ _)) : Cl _) _, trivial⟩
        rw [← d2 h3]
        exact Le.refl _ _
end Go.Proofs.Ytbehegpahiefaaa.Pr
