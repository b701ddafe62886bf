/-
  Arguments of rows: items, numbers, bytes.
-/
import Derived.Test.YtlifbhcmihnkpaaTxt1
import Derived.Test.YtlifbhcmihnkpaaSym5
set_option linter.unusedVariables false
set_option linter.unusedSimpArgs false
namespace Go.Proofs.Ytlifbhcmihnkpaa
set_option maxRecDepth 100000
set_option maxHeartbeats 80000000
open Go.Sym

theorem i64_of {x : Int} (h : (Lit.int .i64 x).wf = true) : I64 x := by
  simp only [Lit.wf, Bool.and_eq_true, decide_eq_true_eq] at h
  exact h

theorem items_of {els : List AV} (h : ∀ x ∈ els, ∃ m cs, isElem 4 x cs ∧ Sym.Good Try.prog m 55 cs) : ∃ l : List Item, els = items l ∧ ∀ x ∈ l, x.ok := by
  induction els with
  | nil => exact ⟨[], rfl, by simp⟩
  | cons x els ih =>
    obtain ⟨l, rfl, hl⟩ := ih fun y hy => h y (List.mem_cons_of_mem _ hy)
    obtain ⟨m, cs, he, g⟩ := h x List.mem_cons_self
    obtain ⟨m, g⟩ := Sym.Good.struct Try.underlying55 (by kernel_rfl) g
    obtain ⟨_, _, rfl, g1, _, _, rfl, g2, _, _, rfl, g3, _, _, rfl, g4, rfl⟩ := g
    obtain ⟨x1, rfl, w1⟩ := Sym.Good.int Try.underlying3 g1
    obtain ⟨x2, rfl, w2⟩ := Sym.Good.int Try.underlying3 g2
    obtain ⟨x3, rfl, w3⟩ := Sym.Good.int Try.underlying3 g3
    obtain ⟨x4, rfl, w4⟩ := Sym.Good.str Try.underlying9 g4
    refine ⟨⟨x1, x2, x3, x4⟩ :: l, ?_, ?_⟩
    · simp only [isElem] at he
      rw [if_neg (by decide)] at he
      rw [he]; rfl
    · intro y hy
      rcases List.mem_cons.1 hy with rfl | hy
      · exact ⟨i64_of w1, i64_of w2, i64_of w3⟩
      · exact hl y hy
theorem bytes_of {t : TypeId} {els : List AV} (hu : Try.prog.underlying t = some (.int .u8)) (h : ∀ x ∈ els, ∃ m cs, isElem 0 x cs ∧ Sym.Good Try.prog m t cs) : ∃ l : List UInt8, els = u8s l := by
  induction els with
  | nil => exact ⟨[], rfl⟩
  | cons x els ih =>
    obtain ⟨l, rfl⟩ := ih fun y hy => h y (List.mem_cons_of_mem _ hy)
    obtain ⟨m, cs, he, g⟩ := h x List.mem_cons_self
    obtain ⟨z, rfl, w⟩ := Sym.Good.int hu g
    simp only [Lit.wf, Bool.and_eq_true, decide_eq_true_eq] at w
    have w1 : 0 ≤ z := w.1
    have w2 : z ≤ 255 := w.2
    simp only [isElem, if_true, List.cons.injEq, and_true] at he
    subst he
    refine ⟨UInt8.ofNat z.toNat :: l, ?_⟩
    simp only [u8s, List.map_cons, u8]
    congr 2
    simp
    omega

theorem ints_of {t : TypeId} {els : List AV} (hu : Try.prog.underlying t = some (.int .i64)) (h : ∀ x ∈ els, ∃ m cs, isElem 0 x cs ∧ Sym.Good Try.prog m t cs) : ∃ l : List Int, els = ints l ∧ ∀ x ∈ l, I64 x := by
  induction els with
  | nil => exact ⟨[], rfl, by simp⟩
  | cons x els ih =>
    obtain ⟨l, rfl, hl⟩ := ih fun y hy => h y (List.mem_cons_of_mem _ hy)
    obtain ⟨m, cs, he, g⟩ := h x List.mem_cons_self
    obtain ⟨z, rfl, w⟩ := Sym.Good.int hu g
    simp only [isElem, if_true, List.cons.injEq, and_true] at he
    subst he
    refine ⟨z :: l, rfl, ?_⟩
    intro y hy
    rcases List.mem_cons.1 hy with rfl | hy
    · exact i64_of w
    · exact hl y hy

end Go.Proofs.Ytlifbhcmihnkpaa

namespace Go.Proofs.Ytlifbhcmihnkpaa
set_option maxRecDepth 100000
set_option maxHeartbeats 80000000
open Go.Sym

structure Rec where
  off : Int
  time : Int
  hk : Bool
  key : List UInt8
  hv : Bool
  val : List UInt8
deriving DecidableEq

structure Bat where
  base : Int
  last : Int
  prod : Int
  epoch : Int
  seq : Int
  recs : List Rec
deriving DecidableEq

abbrev bs (l : List UInt8) : AV := .sl .none 0 (u8s l)
def Rec.av (r : Rec) : AV := .agg [.int .i64 r.off, .int .i64 r.time, .bool r.hk, bs r.key, .bool r.hv, bs r.val]
def recsL (l : List Rec) : List AV := l.map Rec.av
abbrev recsV (l : List Rec) : AV := .sl .none 6 (recsL l)
def Bat.av (b : Bat) : AV := .agg [.int .i64 b.base, .int .i64 b.last, .int .i64 b.prod, .int .i64 b.epoch, .int .i64 b.seq, recsV b.recs]

/-- Are the numbers ints, the bytes no more than may be told? -/
def Rec.ok (r : Rec) : Prop := I64 r.off ∧ I64 r.time ∧ r.key.length ≤ 1000000000 ∧ r.val.length ≤ 1000000000
def Bat.ok (b : Bat) : Prop := I64 b.base ∧ I64 b.last ∧ I64 b.prod ∧ I64 b.epoch ∧ I64 b.seq ∧ b.recs.length ≤ 1000000000 ∧ ∀ r ∈ b.recs, r.ok

theorem ren_bs (ρ : Nat → Nat) (l : List UInt8) : ren ρ (bs l) = bs l := by
  show AV.sl .none 0 (renL ρ (u8s l)) = _
  rw [renL_u8s]
theorem ren_rec (ρ : Nat → Nat) (r : Rec) : ren ρ r.av = r.av := by
  simp only [Rec.av, ren, renL, renL_u8s, renP]
theorem ren_recs (ρ : Nat → Nat) (l : List Rec) : renL ρ (recsL l) = recsL l := by
  induction l with
  | nil => rfl
  | cons x l ih =>
    show ren ρ x.av :: renL ρ (recsL l) = x.av :: recsL l
    rw [ih, ren_rec]
theorem ren_bat (ρ : Nat → Nat) (b : Bat) : ren ρ b.av = b.av := by
  simp only [Bat.av, ren, renL, ren_recs, renP]
theorem recs_get {l : List Rec} {i : Nat} {x : Rec} (h : l[i]? = some x) : (recsL l)[((i : Nat) : Int).toNat]? = some x.av := by
  simp [recsL, h]
theorem recs_length (l : List Rec) : (recsL l).length = l.length := by simp [recsL]

end Go.Proofs.Ytlifbhcmihnkpaa

namespace Go.Proofs.Ytlifbhcmihnkpaa
set_option maxRecDepth 100000
set_option maxHeartbeats 80000000
open Go.Sym

def poly : BitVec 32 := 0x82f63b78#32
def crcBit (r : BitVec 32) : BitVec 32 := if r.getLsbD 0 then (r >>> 1) ^^^ poly else r >>> 1
def crcBits : Nat → BitVec 32 → BitVec 32
  | 0, r => r
  | n + 1, r => crcBits n (crcBit r)
def crcByte (r : BitVec 32) (c : UInt8) : BitVec 32 := crcBits 8 (r ^^^ BitVec.ofNat 32 c.toNat)
def crcMore (r : BitVec 32) (l : List UInt8) : BitVec 32 := l.foldl crcByte r
def crcSum (l : List UInt8) : Nat := (~~~ (crcMore (~~~ 0#32) l)).toNat

abbrev u32 (r : BitVec 32) : AV := .int .u32 r.toNat

theorem w32 (r : BitVec 32) : IntKind.u32.wrap (r.toNat : Int) = (r.toNat : Int) := by
  have := r.isLt
  rw [IntKind.wrap_u32]; omega
theorem of32 (r : BitVec 32) : BitVec.ofInt IntKind.u32.bits (r.toNat : Int) = r := by
  show BitVec.ofInt 32 (r.toNat : Int) = r
  rw [ofInt_nat]; simp
theorem byte32 (c : UInt8) : IntKind.u32.wrap (c.toNat : Int) = ((BitVec.ofNat 32 c.toNat).toNat : Int) := by
  have := c.toNat_lt
  rw [IntKind.wrap_u32]; simp; omega
theorem shr32 (r : BitVec 32) : (r.toNat : Int).fdiv (2 ^ min (Int.toNat 1) IntKind.u32.bits) = ((r >>> 1).toNat : Int) := by
  have e2 : (2 : Int) ^ (min (1 : Int).toNat IntKind.u32.bits) = 2 := by decide
  rw [e2, Int.fdiv_eq_ediv_of_nonneg _ (by omega), BitVec.toNat_ushiftRight, Nat.shiftRight_eq_div_pow]
  omega
theorem xor32 (r s : BitVec 32) : IntKind.u32.wrap ((BitVec.ofInt IntKind.u32.bits (r.toNat : Int) ^^^ BitVec.ofInt IntKind.u32.bits (s.toNat : Int)).toNat : Int) = ((r ^^^ s).toNat : Int) := by
  rw [of32, of32]; exact w32 _
theorem and32 (r s : BitVec 32) : IntKind.u32.wrap ((BitVec.ofInt IntKind.u32.bits (r.toNat : Int) &&& BitVec.ofInt IntKind.u32.bits (s.toNat : Int)).toNat : Int) = ((r &&& s).toNat : Int) := by
  rw [of32, of32]; exact w32 _
theorem bit0 (r : BitVec 32) : (r &&& 1#32) = if r.getLsbD 0 then 1#32 else 0#32 := by
  apply BitVec.eq_of_getLsbD_eq
  intro i hi
  rw [BitVec.getLsbD_and]
  cases i with
  | zero => cases h : r.getLsbD 0 <;> simp
  | succ i =>
    have : (1#32).getLsbD (i + 1) = false := by simp
    rw [this]
    cases h : r.getLsbD 0 <;> simp
theorem one32 : (1 : Int) = ((1#32).toNat : Int) := by simp
theorem poly32 : (2197175160 : Int) = (poly.toNat : Int) := by simp [poly]

theorem neg32 (r : BitVec 32) : IntKind.u32.wrap (0 - (r.toNat : Int)) = ((-r).toNat : Int) := by
  have := r.isLt
  rw [IntKind.wrap_u32, BitVec.toNat_neg]
  omega
theorem crcBit_eq (r : BitVec 32) : crcBit r = (r >>> 1) ^^^ (poly &&& -(r &&& 1#32)) := by
  rw [bit0, crcBit]
  cases h : r.getLsbD 0 with
  | true =>
    have e : -(1#32) = BitVec.allOnes 32 := by rfl
    simp only [if_true, e, BitVec.and_allOnes]
  | false =>
    have e : -(0#32) = 0#32 := by rfl
    simp only [Bool.false_eq_true, if_false, e, BitVec.and_zero, BitVec.xor_zero]

theorem crcBit_t {r : BitVec 32} (h : r.getLsbD 0 = true) : crcBit r = (r >>> 1) ^^^ poly := by simp only [crcBit, h, if_true]
theorem crcBit_f {r : BitVec 32} (h : r.getLsbD 0 = false) : crcBit r = r >>> 1 := by simp only [crcBit, h, Bool.false_eq_true, if_false]

structure CbI (t : BitVec 32) where
  i : Nat
  r : BitVec 32
  hi : i ≤ 8
  h : crcBits (8 - i) r = t

theorem crcStep {r : BitVec 32} {c : UInt8} : CallOK Try.prog 153 [u32 r, u8 c] [] 0 (Out (u32 (crcByte r c)) [] 0) := by
  obtain ⟨t, ht⟩ : ∃ t, t = crcByte r c := ⟨_, rfl⟩
  rw [← ht]
  refine callOK Try.call153 Try.func153 Try.ntmps153 rfl ?_
  conv => arg 4; whnf
  rw [byte32, xor32]
  refine tri_loopG (ι := CbI t) (fun a => ⟨[(9, .int .i64 a.i), (0, u32 a.r)], [], 0, 20⟩) (fun a => 8 - a.i) ⟨0, r ^^^ BitVec.ofNat 32 c.toNat, by omega, ht.symm⟩ ?_ ?_
  · exact WkG.of rfl rfl ⟨Le.refl _ _, Le.refl _ _, trivial⟩ trivial ⟨rfl, rfl, trivial⟩ trivial
  · intro a
    have hai := a.hi
    have hh := a.h
    conv => arg 4; whnf
    refine ⟨fun h => ?_, fun h => ?_⟩
    · have hi : a.i < 8 := by simp at h; omega
      conv => arg 4; whnf
      refine ⟨by decide, ?_⟩; conv => arg 4; whnf
      have e8 : 8 - a.i = (8 - (a.i + 1)) + 1 := by omega
      rw [e8, crcBits] at hh
      refine ⟨⟨a.i + 1, crcBit a.r, by omega, hh⟩, by show 8 - (a.i + 1) < 8 - a.i; omega, WkG.of rfl rfl ⟨Le.of_eq (succ_int (by omega)), Le.of_eq ?_, trivial⟩ trivial ⟨rfl, rfl, trivial⟩ trivial⟩
      conv => lhs; whnf
      rw [shr32, one32, and32, neg32, poly32, and32, xor32, ← crcBit_eq]
    · have hi : a.i = 8 := by simp at h; omega
      rw [hi, Nat.sub_self, crcBits] at hh
      conv => arg 4; whnf
      exact ⟨by rw [hh], rfl, rfl⟩
structure MoI (t : BitVec 32) (l : List UInt8) where
  i : Nat
  r : BitVec 32
  hi : i ≤ l.length
  h : crcMore r (l.drop i) = t

theorem refMore {r : BitVec 32} {l : List UInt8} (hl : l.length ≤ 1000000000) : CallOK Try.prog 147 [u32 r, bs l] [] 0 (Out (u32 (crcMore r l)) [] 0) := by
  obtain ⟨t, ht⟩ : ∃ t, t = crcMore r l := ⟨_, rfl⟩
  rw [← ht]
  refine callOK Try.call147 Try.func147 Try.ntmps147 rfl ?_
  conv => arg 4; whnf
  refine tri_loopG (ι := MoI t l) (fun a => ⟨[(5, .int .i64 a.i), (0, u32 a.r), (1, bs l)], [], 0, 33⟩) (fun a => l.length - a.i) ⟨0, r, by omega, ht.symm⟩ ?_ ?_
  · exact WkG.of rfl rfl ⟨Le.refl _ _, Le.refl _ _, Le.refl _ _, trivial⟩ trivial ⟨rfl, rfl, cut_ok rfl, trivial⟩ trivial
  · intro a
    have hai := a.hi
    have hh := a.h
    conv => arg 4; whnf
    refine ⟨fun h => ?_, fun h => ?_⟩
    · have hi : a.i < l.length := by simp [u8s_length] at h; omega
      have hg : (u8s l)[((a.i : Nat) : Int).toNat]? = some (u8 l[a.i]) := by simp [u8s, hi]
      have hi0 := hi
      rw [List.drop_eq_getElem_cons hi] at hh
      simp only [crcMore, List.foldl_cons] at hh
      conv => arg 4; whnf
      refine ⟨_, ⟨by omega, hg⟩, ?_⟩
      conv => arg 4; whnf
      rw [byte32, xor32]
      refine tri_loopG (ι := CbI (crcByte a.r l[a.i])) (fun b => ⟨[(6, .int .i64 b.i), (0, u32 b.r), (5, .int .i64 a.i), (1, bs l)], [], 0, 33⟩) (fun b => 8 - b.i) ⟨0, _, by omega, rfl⟩ ?_ ?_
      · exact WkG.of rfl rfl ⟨Le.refl _ _, Le.refl _ _, Le.refl _ _, Le.refl _ _, trivial⟩ trivial ⟨rfl, rfl, rfl, cut_ok rfl, trivial⟩ trivial
      · intro b
        have hbi := b.hi
        have hb := b.h
        conv => arg 4; whnf
        refine ⟨fun h => ?_, fun h => ?_⟩
        · have hi : b.i < 8 := by simp at h; omega
          have e8 : 8 - b.i = (8 - (b.i + 1)) + 1 := by omega
          rw [e8, crcBits] at hb
          have hbit : (IntKind.u32.wrap ((BitVec.ofInt IntKind.u32.bits (b.r.toNat : Int) &&& BitVec.ofInt IntKind.u32.bits 1).toNat : Int) == 1) = b.r.getLsbD 0 := by
            rw [one32, and32, bit0]
            cases b.r.getLsbD 0 <;> decide
          conv => arg 4; whnf
          rw [hbit]
          refine ⟨fun q => ?_, fun q => ?_⟩
          · conv => arg 4; whnf
            refine ⟨by decide, ?_⟩; conv => arg 4; whnf
            refine ⟨⟨b.i + 1, crcBit b.r, by omega, hb⟩, by show 8 - (b.i + 1) < 8 - b.i; omega, WkG.of rfl rfl ⟨Le.of_eq (succ_int (by omega)), Le.of_eq ?_, Le.refl _ _, Le.refl _ _, trivial⟩ trivial ⟨rfl, rfl, rfl, cut_ok rfl, trivial⟩ trivial⟩
            conv => lhs; whnf
            rw [shr32, poly32, xor32, ← crcBit_t q]
          · conv => arg 4; whnf
            refine ⟨by decide, ?_⟩; conv => arg 4; whnf
            refine ⟨⟨b.i + 1, crcBit b.r, by omega, hb⟩, by show 8 - (b.i + 1) < 8 - b.i; omega, WkG.of rfl rfl ⟨Le.of_eq (succ_int (by omega)), Le.of_eq ?_, Le.refl _ _, Le.refl _ _, trivial⟩ trivial ⟨rfl, rfl, rfl, cut_ok rfl, trivial⟩ trivial⟩
            conv => lhs; whnf
            rw [shr32, ← crcBit_f q]
        · have hi : b.i = 8 := by simp at h; omega
          rw [hi, Nat.sub_self, crcBits] at hb
          conv => arg 4; whnf
          refine fin_exit ?_
          show holds _ _ _ _
          conv => arg 4; whnf
          refine ⟨⟨a.i + 1, crcByte a.r l[a.i], hi0, hh⟩, by show l.length - (a.i + 1) < l.length - a.i; omega, WkG.of rfl rfl ⟨Le.of_eq (succ_int (by omega)), Le.of_eq ?_, Le.refl _ _, trivial⟩ trivial ⟨rfl, rfl, cut_ok rfl, trivial⟩ trivial⟩
          conv => lhs; whnf
          rw [hb]
    · have hi : a.i = l.length := by simp [u8s_length] at h; omega
      rw [hi, List.drop_length] at hh
      conv => arg 4; whnf
      have hh' : a.r = t := hh
      exact ⟨by rw [hh'], rfl, rfl⟩
end Go.Proofs.Ytlifbhcmihnkpaa

namespace Go.Proofs.Ytlifbhcmihnkpaa
set_option maxRecDepth 100000
set_option maxHeartbeats 80000000
open Go.Sym

theorem not32 (r : BitVec 32) : IntKind.u32.wrap ((BitVec.ofInt IntKind.u32.bits (if IntKind.u32.signed = true then -1 else IntKind.u32.max) ^^^ BitVec.ofInt IntKind.u32.bits (r.toNat : Int)).toNat : Int) = ((~~~ r).toNat : Int) := by
  have e : BitVec.ofInt IntKind.u32.bits (if IntKind.u32.signed = true then -1 else IntKind.u32.max) = BitVec.allOnes 32 := by rfl
  have e2 : BitVec.allOnes 32 ^^^ r = ~~~ r := by rw [BitVec.allOnes_xor]
  rw [of32, e]
  exact (congrArg (fun x : BitVec 32 => IntKind.u32.wrap (x.toNat : Int)) e2).trans (w32 _)

theorem crcMoreC {r : BitVec 32} {l : List UInt8} (hl : l.length ≤ 1000000000) : CallOK Try.prog 146 [u32 r, bs l] [] 0 (Out (u32 (~~~ (crcMore (~~~ r) l))) [] 0) := by
  obtain ⟨t, ht⟩ : ∃ t, t = crcMore (~~~ r) l := ⟨_, rfl⟩
  rw [← ht]
  refine callOK Try.call146 Try.func146 Try.ntmps146 rfl ?_
  conv => arg 4; whnf
  rw [not32]
  refine tri_loopG (ι := MoI t l) (fun a => ⟨[(12, .int .i64 a.i), (11, .int .i64 l.length), (10, bs l), (5, u32 a.r)], [], 0, 22⟩) (fun a => l.length - a.i) ⟨0, ~~~ r, by omega, ht.symm⟩ ?_ ?_
  · refine WkG.of rfl rfl ⟨Le.refl _ _, Le.of_eq ?_, Le.refl _ _, Le.refl _ _, trivial⟩ trivial ⟨rfl, rfl, cut_ok rfl, rfl, trivial⟩ trivial
    conv => lhs; whnf
    rw [u8s_length]
  · intro a
    have hai := a.hi
    have hh := a.h
    conv => arg 4; whnf
    refine ⟨fun h => ?_, fun h => ?_⟩
    · have hi : a.i < l.length := by simp at h; omega
      have hg : (u8s l)[((a.i : Nat) : Int).toNat]? = some (u8 l[a.i]) := by simp [u8s, hi]
      rw [List.drop_eq_getElem_cons hi] at hh
      simp only [crcMore, List.foldl_cons] at hh
      conv => arg 4; whnf
      refine ⟨_, ⟨by omega, hg⟩, ?_⟩
      conv => arg 4; whnf
      refine call0 (crcStep (r := a.r) (c := l[a.i])) (ClL.cons (Cl.int _ _) (ClL.cons (Cl.int _ _) ClL.nil)) (Cl.int _ _) ?_
      conv => arg 4; whnf
      exact ⟨⟨a.i + 1, crcByte a.r l[a.i], hi, hh⟩, by show l.length - (a.i + 1) < l.length - a.i; omega, WkG.of rfl rfl ⟨Le.of_eq (succ_int (by omega)), Le.refl _ _, Le.refl _ _, Le.refl _ _, trivial⟩ trivial ⟨rfl, rfl, cut_ok rfl, rfl, trivial⟩ trivial⟩
    · have hi : a.i = l.length := by simp at h; omega
      rw [hi, List.drop_length] at hh
      have hh' : a.r = t := hh
      conv => arg 4; whnf
      refine fin_exit ?_
      show holds _ _ _ _
      conv => arg 4; whnf
      rw [not32]
      exact ⟨by rw [hh'], rfl, rfl⟩

theorem crcSumC {l : List UInt8} (hl : l.length ≤ 1000000000) : CallOK Try.prog 131 [.sl .none 0 [bs l]] [] 0 (Out (.int .u32 (crcSum l)) [] 0) := by
  refine callOK Try.call131 Try.func131 Try.ntmps131 rfl ?_
  conv => arg 4; whnf
  refine tri_loopG (ι := Bool) (fun a => ⟨[(7, .int .i64 (if a then 0 else 1)), (6, .int .i64 1), (5, .sl .none 0 [bs l]), (2, .int .u32 (if a then 0 else crcSum l))], [], 0, 16⟩) (fun a => if a then 1 else 0) true ?_ ?_
  · exact WkG.of rfl rfl ⟨Le.refl _ _, Le.refl _ _, Le.refl _ _, Le.refl _ _, trivial⟩ trivial ⟨rfl, rfl, (Cl.sl (ClL.cons (Cl.bs _) ClL.nil)) _, rfl, trivial⟩ trivial
  · intro a
    cases a with
    | true =>
      conv => arg 4; whnf
      refine ⟨fun _ => ?_, fun h => absurd h (by first | (simp; done) | (simp [u8s]; done))⟩
      conv => arg 4; whnf
      refine ⟨bs l, ⟨by decide, rfl⟩, ?_⟩
      conv => arg 4; whnf
      refine call0 (crcMoreC (r := 0#32) (l := l) hl) (ClL.cons (Cl.int _ _) (ClL.cons (Cl.bs _) ClL.nil)) (Cl.int _ _) ?_
      conv => arg 4; whnf
      exact ⟨false, by decide, WkG.of rfl rfl ⟨Le.refl _ _, Le.refl _ _, Le.refl _ _, Le.refl _ _, trivial⟩ trivial ⟨rfl, rfl, (Cl.sl (ClL.cons (Cl.bs _) ClL.nil)) _, rfl, trivial⟩ trivial⟩
    | false =>
      conv => arg 4; whnf
      refine ⟨fun h => absurd h (by first | (simp; done) | (simp [u8s]; done)), fun _ => ?_⟩
      conv => arg 4; whnf
      refine fin_exit ?_
      show holds _ _ _ _
      conv => arg 4; whnf
      exact ⟨rfl, rfl, rfl⟩

theorem refSum {l : List UInt8} (hl : l.length ≤ 1000000000) : CallOK Try.prog 134 [bs l] [] 0 (Out (.int .u32 (crcSum l)) [] 0) := by
  refine callOK Try.call134 Try.func134 Try.ntmps134 rfl ?_
  conv => arg 4; whnf
  refine call0 (refMore (r := ~~~ 0#32) (l := l) hl) (ClL.cons (Cl.int _ _) (ClL.cons (Cl.bs _) ClL.nil)) (Cl.int _ _) ?_
  conv => arg 4; whnf
  rw [not32]
  exact ⟨rfl, rfl, rfl⟩
end Go.Proofs.Ytlifbhcmihnkpaa

namespace Go.Proofs.Ytlifbhcmihnkpaa
set_option maxRecDepth 100000
set_option maxHeartbeats 80000000
open Go.Sym

theorem Cl.rec (r : Rec) : Cl r.av := fun ρ => ren_rec ρ r
theorem ClL.recs (l : List Rec) : ClL (recsL l) := fun ρ => ren_recs ρ l
theorem Cl.bat (b : Bat) : Cl b.av := fun ρ => ren_bat ρ b

theorem within {n low high : Int} : CallOK Try.prog 109 [.int .i64 n, .int .i64 low, .int .i64 high] [] 0 (Out (.bool (decide (low ≤ n ∧ n ≤ high))) [] 0) := by
  refine callOK Try.call109 Try.func109 Try.ntmps109 rfl ?_
  conv => arg 4; whnf
  refine ⟨?_, rfl, rfl⟩
  congr 1
  by_cases h1 : low ≤ n <;> by_cases h2 : n ≤ high <;> simp [h1, h2]

def RecBad (r : Rec) (base last prev : Int) : Prop :=
  (((((r.off < base ∨ last < r.off) ∨ r.off ≤ prev) ∨ r.time < 0) ∨ 1125899906842624 < r.time) ∨ r.hk = false ∧ (0 : Int) < r.key.length) ∨ r.hv = false ∧ (0 : Int) < r.val.length
def RecBig (r : Rec) : Prop := (200 : Int) < r.key.length ∨ (2000 : Int) < r.val.length

open Classical in
/-- Why a record may not be. -/
noncomputable def recE (r : Rec) (base last prev : Int) : Int := if RecBad r base last prev then 1 else if RecBig r then 3 else 0

theorem recE_bad {r : Rec} {base last prev : Int} (h : RecBad r base last prev) : recE r base last prev = 1 := by rw [recE, if_pos h]
theorem recE_big {r : Rec} {base last prev : Int} (h : ¬ RecBad r base last prev) (k : RecBig r) : recE r base last prev = 3 := by rw [recE, if_neg h, if_pos k]
theorem recE_ok {r : Rec} {base last prev : Int} (h : ¬ RecBad r base last prev) (k : ¬ RecBig r) : recE r base last prev = 0 := by rw [recE, if_neg h, if_neg k]

theorem refRec {r : Rec} {b : Bat} {prev : Int} : CallOK Try.prog 112 [r.av, b.av, .int .i64 prev] [] 0 (Out (.int .i64 (recE r b.base b.last prev)) [] 0) := by
  refine CallOK.fit (by decide) ?_
  refine callOK Try.call112 Try.func112 Try.ntmps112 rfl ?_
  conv => arg 4; whnf
  refine ⟨fun h => ?_, fun h => ?_⟩
  · simp only [Bool.cond_true_left, Bool.cond_false_right, Bool.or_eq_true, Bool.and_eq_true, Bool.not_eq_true', decide_eq_true_eq, beq_iff_eq, bne_iff_ne, u8s_length, Bool.not_eq_true, gt_iff_lt, ge_iff_le] at h
    conv => arg 4; whnf
    refine ⟨by decide, Le.of_eq ?_, trivial, (Cl.int _ _) _, trivial⟩
    exact congrArg _ (recE_bad h).symm
  · rw [← Bool.not_eq_true] at h; simp only [Bool.cond_true_left, Bool.cond_false_right, Bool.or_eq_true, Bool.and_eq_true, Bool.not_eq_true', decide_eq_true_eq, beq_iff_eq, bne_iff_ne, u8s_length, gt_iff_lt, ge_iff_le] at h
    conv => arg 4; whnf
    refine ⟨fun h2 => ?_, fun h2 => ?_⟩
    · simp only [Bool.cond_true_left, Bool.cond_false_right, Bool.or_eq_true, Bool.and_eq_true, Bool.not_eq_true', decide_eq_true_eq, beq_iff_eq, bne_iff_ne, u8s_length, Bool.not_eq_true, gt_iff_lt, ge_iff_le] at h2
      conv => arg 4; whnf
      refine ⟨by decide, Le.of_eq ?_, trivial, (Cl.int _ _) _, trivial⟩
      exact congrArg _ (recE_big h h2).symm
    · rw [← Bool.not_eq_true] at h2; simp only [Bool.cond_true_left, Bool.cond_false_right, Bool.or_eq_true, Bool.and_eq_true, Bool.not_eq_true', decide_eq_true_eq, beq_iff_eq, bne_iff_ne, u8s_length, gt_iff_lt, ge_iff_le] at h2
      conv => arg 4; whnf
      refine ⟨by decide, Le.of_eq ?_, trivial, (Cl.int _ _) _, trivial⟩
      exact congrArg _ (recE_ok h h2).symm

theorem batRec {r : Rec} {b : Bat} {prev : Int} : CallOK Try.prog 110 [r.av, b.av, .int .i64 prev] [] 0 (Out (.int .i64 (recE r b.base b.last prev)) [] 0) := by
  refine CallOK.fit (by decide) ?_
  refine callOK Try.call110 Try.func110 Try.ntmps110 rfl ?_
  conv => arg 4; whnf
  refine call0 within (ClL.cons (Cl.int _ _) (ClL.cons (Cl.int _ _) (ClL.cons (Cl.int _ _) ClL.nil))) (Cl.bool _) ?_
  conv => arg 4; whnf
  refine ⟨fun h => ?_, fun h => ?_⟩
  · simp only [Bool.cond_true_left, Bool.cond_false_right, Bool.or_eq_true, Bool.and_eq_true, Bool.not_eq_true', decide_eq_true_eq, beq_iff_eq, bne_iff_ne, u8s_length, Bool.not_eq_true, gt_iff_lt, ge_iff_le] at h
    simp only [decide_eq_false_iff_not] at h
    conv => arg 4; whnf
    refine ⟨by decide, Le.of_eq ?_, trivial, (Cl.int _ _) _, trivial⟩
    exact congrArg _ (recE_bad (by unfold RecBad; omega)).symm
  · rw [← Bool.not_eq_true] at h; simp only [Bool.cond_true_left, Bool.cond_false_right, Bool.or_eq_true, Bool.and_eq_true, Bool.not_eq_true', decide_eq_true_eq, beq_iff_eq, bne_iff_ne, u8s_length, gt_iff_lt, ge_iff_le] at h
    simp only [decide_eq_false_iff_not] at h
    conv => arg 4; whnf
    refine call0 within (ClL.cons (Cl.int _ _) (ClL.cons (Cl.int _ _) (ClL.cons (Cl.int _ _) ClL.nil))) (Cl.bool _) ?_
    conv => arg 4; whnf
    refine ⟨fun h2 => ?_, fun h2 => ?_⟩
    · simp only [Bool.cond_true_left, Bool.cond_false_right, Bool.or_eq_true, Bool.and_eq_true, Bool.not_eq_true', decide_eq_true_eq, beq_iff_eq, bne_iff_ne, u8s_length, Bool.not_eq_true, gt_iff_lt, ge_iff_le] at h2
      simp only [decide_eq_false_iff_not] at h2
      conv => arg 4; whnf
      refine ⟨by decide, Le.of_eq ?_, trivial, (Cl.int _ _) _, trivial⟩
      refine congrArg _ (recE_bad ?_).symm
      unfold RecBad
      rcases h2 with (h2 | h2) | h2
      · omega
      · exact .inl (.inr h2)
      · exact .inr h2
    · rw [← Bool.not_eq_true] at h2; simp only [Bool.cond_true_left, Bool.cond_false_right, Bool.or_eq_true, Bool.and_eq_true, Bool.not_eq_true', decide_eq_true_eq, beq_iff_eq, bne_iff_ne, u8s_length, gt_iff_lt, ge_iff_le] at h2
      simp only [decide_eq_false_iff_not] at h2
      have hb : ¬ RecBad r b.base b.last prev := by
        unfold RecBad
        rintro ((hh | hh) | hh)
        · omega
        · exact h2 (.inl (.inr hh))
        · exact h2 (.inr hh)
      conv => arg 4; whnf
      refine ⟨fun h3 => ?_, fun h3 => ?_⟩
      · simp only [Bool.cond_true_left, Bool.cond_false_right, Bool.or_eq_true, Bool.and_eq_true, Bool.not_eq_true', decide_eq_true_eq, beq_iff_eq, bne_iff_ne, u8s_length, Bool.not_eq_true, gt_iff_lt, ge_iff_le] at h3
        conv => arg 4; whnf
        refine ⟨by decide, Le.of_eq ?_, trivial, (Cl.int _ _) _, trivial⟩
        exact congrArg _ (recE_big hb h3).symm
      · rw [← Bool.not_eq_true] at h3; simp only [Bool.cond_true_left, Bool.cond_false_right, Bool.or_eq_true, Bool.and_eq_true, Bool.not_eq_true', decide_eq_true_eq, beq_iff_eq, bne_iff_ne, u8s_length, gt_iff_lt, ge_iff_le] at h3
        conv => arg 4; whnf
        refine ⟨by decide, Le.of_eq ?_, trivial, (Cl.int _ _) _, trivial⟩
        exact congrArg _ (recE_ok hb h3).symm
end Go.Proofs.Ytlifbhcmihnkpaa
