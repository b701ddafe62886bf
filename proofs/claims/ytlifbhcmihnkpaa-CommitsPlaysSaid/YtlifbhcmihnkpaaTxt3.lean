/-
  Slices that may be appended to: what was put, copied, written at last.
-/
import Derived.Test.YtlifbhcmihnkpaaTxt1
import Derived.Test.YtlifbhcmihnkpaaSym6
import Derived.Test.YtlifbhcmihnkpaaTxt2
import Derived.Shelf.Spec.SlicesGrow
import Derived.Shelf.SlMaps.Clone
set_option linter.unusedVariables false
set_option linter.unusedSimpArgs false
namespace Go.Proofs.Ytlifbhcmihnkpaa
set_option maxRecDepth 100000
set_option maxHeartbeats 80000000
open Go.Sym

theorem refFixedF' {n size : Int} (hn : I64 n) (hf : Fits n size) :
    CallOK Try.prog 83 [.int .i64 n, .int .i64 size] [] 0 (Out (.sl .full 0 (u8s (fixed n.toNat size.toNat))) [] 0) := by
  obtain ⟨h1, h2, h3, h4⟩ := hf
  obtain ⟨m, rfl⟩ : ∃ m : Nat, n = m := ⟨n.toNat, by omega⟩
  obtain ⟨k, rfl⟩ : ∃ k : Nat, size = k := ⟨size.toNat, by omega⟩
  exact refFixedF hn (by omega)

theorem refBytes {b : List UInt8} (hl : b.length ≤ 1000000000) :
    CallOK Try.prog 132 [.sl .none 0 (u8s b)] [] 0 (Out (.sl .none 0 (u8s (put b.length ++ b))) [] 0) := by
  have hn : I64 (b.length : Int) := by unfold I64; omega
  have hp := put_len hn
  refine CallOK.none ?_ (ClL.u8s _)
  refine callOK Try.call132 Try.func132 Try.ntmps132 rfl ?_
  conv => arg 4; whnf
  rw [u8s_length]
  refine callT (refPutT hn) (ClL.cons (Cl.int _ _) ClL.nil) (ClL.u8s _) fun s => ?_
  conv => arg 4; whnf
  refine ⟨⟨by first | rfl | trivial, sizeOk 1 rfl ?_⟩, ?_⟩
  · simp [u8s_length]; omega
  conv => arg 4; whnf
  refine ⟨s + 1, ?_, rfl, rfl⟩
  rw [← u8s_append]

theorem cloneT {l : List UInt8} (hl : l.length ≤ 100000000000000) :
    CallOK Try.prog 86 [.sl .none 0 (u8s l)] [] 0 (NewSl 0 (u8s l)) := by
  suffices hs : CallOK Try.prog 86 [.sl .none 0 (u8s l)] [] 0 (fun a h m => Out (.nils) [] 0 a h m ∧ l = [] ∨ Out (.sl (.tok 0 0) 0 (u8s l)) [(0, .tip 0)] 1 a h m) from
    hs.ghost fun a h m ho => by
      rcases ho with ⟨⟨e1, e2, e3⟩, rfl⟩ | ⟨e1, e2, e3⟩ <;> subst e1 <;> subst e2 <;> subst e3
      · exact ⟨_, [(0, .tip 0)], 1, by omega, (Gh.token 0 _ [] 0).trans (Gh.le (fun _ => Le.nilsTok rfl) (fun id o hg => ⟨o, hg, LeO.refl _ _⟩)), 0, rfl, rfl, rfl⟩
      · exact ⟨_, [(0, .tip 0)], 1, by omega, .refl _ _ _ _, 0, rfl, rfl, rfl⟩
  refine callOK Try.call86 Try.func86 Try.ntmps86 rfl ?_
  conv => arg 4; whnf
  intro b hb
  cases b with
  | true =>
    have hb := hb rfl
    refine ⟨fun _ => ?_, fun h => (by cases h)⟩
    conv => arg 4; whnf
    refine .inl ⟨⟨rfl, rfl, rfl⟩, by cases l <;> simp_all [u8s]⟩
  | false =>
    refine ⟨fun h => (by cases h), fun _ => ?_⟩
    conv => arg 4; whnf
    refine ⟨sizeOk 1 rfl ?_, ?_⟩
    · simp [u8s_length]; omega
    refine Or.inl ?_
    conv => arg 4; whnf
    exact .inr ⟨rfl, rfl, rfl⟩

theorem wDoneT {l : List UInt8} {s : Nat} (hl : l.length ≤ 100000000000000) :
    CallOK Try.prog 22 [.ptr 0 0] (WH l s false) 2 (fun a h m => ∃ s2, Out (.tup [.sl (.tok 2 s2) 0 (u8s l), .bl true]) ((2, .tip s2) :: WH l s false) 3 a h m) := by
  refine callOK Try.call22 Try.func22 Try.ntmps22 rfl ?_
  conv => arg 4; whnf
  refine ⟨fun h => (by cases h), fun _ => ?_⟩
  conv => arg 4; whnf
  refine holds_args (args' := [.sl .none 0 (u8s l)]) ⟨Le.none, trivial⟩ (callT (cloneT hl) (ClL.cons (Cl.bs _) ClL.nil) (ClL.u8s _) fun s2 => ?_)
  conv => arg 4; whnf
  exact ⟨s2, rfl, rfl, rfl⟩

/-- A number that fits is written. -/
theorem wFixedT {n size : Int} (hn : I64 n) (hf : Fits n size) {l : List UInt8} {s : Nat} (hl : l.length ≤ 100000000000000) :
    CallOK Try.prog 81 [.ptr 0 0, .int .i64 n, .int .i64 size] (WH l s false) 2 (fun a h m => ∃ s', Out (.ptr 0 0) (WH (l ++ fixed n.toNat size.toNat) s' false) 2 a h m) :=
  (wFixed hn (by unfold I64; have := hf.2.1; have := hf.2.2.1; omega) hl).mono fun a h m ho => by
    rcases ho with ⟨_, s', e⟩ | ⟨hb, _⟩
    · exact ⟨s', e⟩
    · exact absurd hf hb
end Go.Proofs.Ytlifbhcmihnkpaa

namespace Go.Proofs.Ytlifbhcmihnkpaa
set_option maxRecDepth 100000
set_option maxHeartbeats 80000000
open Go.Sym

/-- Bytes that may be wanting. -/
def opt (has : Bool) (l : List UInt8) : List UInt8 := if has then put l.length ++ l else put (-1)
def lenB (l : List UInt8) : List UInt8 := put l.length ++ l
def Rec.body (r : Rec) (first base : Int) : List UInt8 := put (r.time - first) ++ put (r.off - base) ++ opt r.hk r.key ++ opt r.hv r.val
def Bat.first (b : Bat) : Int := match b.recs with
  | [] => 0
  | r :: _ => r.time
def recsB (l : List Rec) (first base : Int) : List UInt8 := (l.map fun r => lenB (r.body first base)).flatten
def Bat.head (b : Bat) : List UInt8 := fixed (b.last - b.base).toNat 8 ++ fixed b.first.toNat 8 ++ fixed b.prod.toNat 8 ++ fixed b.epoch.toNat 2 ++ fixed b.seq.toNat 4 ++ fixed b.recs.length 4
def Bat.rest (b : Bat) : List UInt8 := b.head ++ recsB b.recs b.first b.base
def Bat.enc (b : Bat) : List UInt8 := fixed b.base.toNat 8 ++ fixed (b.rest.length + 4) 4 ++ fixed (crcSum b.rest) 4 ++ b.rest

def HeadBad (b : Bat) : Prop :=
  b.base < 0 ∨ 4611686018427387904 < b.base ∨ b.last < b.base ∨ 4611686018427387904 < b.last ∨ b.prod < 0 ∨ 1099511627776 < b.prod ∨ b.epoch < 0 ∨ 32767 < b.epoch ∨ b.seq < 0 ∨ 2147483647 < b.seq ∨ b.prod = 0 ∧ (b.epoch ≠ 0 ∨ b.seq ≠ 0)
/-- A record that can be written. -/
def Rec.fine (r : Rec) (b : Bat) : Prop := b.base ≤ r.off ∧ r.off ≤ b.last ∧ 0 ≤ r.time ∧ r.time ≤ 1125899906842624 ∧ r.key.length ≤ 200 ∧ r.val.length ≤ 2000
structure Bat.fine (b : Bat) : Prop where
  head : ¬ HeadBad b
  few : b.recs.length ≤ 100
  recs : ∀ r ∈ b.recs, r.fine b

theorem opt_len {has : Bool} {l : List UInt8} (h : l.length ≤ 1000000000) : (opt has l).length ≤ l.length + 10 := by
  unfold opt
  split
  · have := put_len (n := l.length) (by unfold I64; omega)
    rw [List.length_append]; omega
  · have := put_len (n := -1) (by unfold I64; omega)
    omega
theorem first_time {b : Bat} (hb : b.fine) : 0 ≤ b.first ∧ b.first ≤ 1125899906842624 := by
  unfold Bat.first
  split
  · omega
  · rename_i r l he
    have := hb.recs r (by rw [he]; exact List.mem_cons_self)
    unfold Rec.fine at this
    omega
theorem body_len {r : Rec} {b : Bat} (hb : b.fine) (hr : r.fine b) : (r.body b.first b.base).length ≤ r.key.length + r.val.length + 40 := by
  have h1 := first_time hb
  have hh := hb.head
  unfold HeadBad at hh
  unfold Rec.fine at hr
  have p1 := put_len (n := r.time - b.first) (by unfold I64; omega)
  have p2 := put_len (n := r.off - b.base) (by unfold I64; omega)
  have o1 := opt_len (has := r.hk) (l := r.key) (by omega)
  have o2 := opt_len (has := r.hv) (l := r.val) (by omega)
  unfold Rec.body
  simp only [List.length_append]
  omega
theorem recsB_len {b : Bat} (hb : b.fine) : ∀ l : List Rec, (∀ r ∈ l, r.fine b) → (recsB l b.first b.base).length ≤ 2250 * l.length
  | [], _ => by simp [recsB]
  | r :: l, h => by
    have ih := recsB_len hb l fun r hr => h r (List.mem_cons_of_mem _ hr)
    have hr := h r List.mem_cons_self
    have h1 := body_len hb hr
    have hr' := hr
    unfold Rec.fine at hr'
    have hp := put_len (n := (r.body b.first b.base).length) (by unfold I64; omega)
    show (lenB (r.body b.first b.base) ++ recsB l b.first b.base).length ≤ _
    simp only [List.length_append, List.length_cons, lenB]
    omega
theorem head_len (b : Bat) : b.head.length = 34 := by
  simp only [Bat.head, List.length_append, fixed_len]
theorem rest_len {b : Bat} (hb : b.fine) : b.rest.length ≤ 225034 := by
  have h1 := head_len b
  have h2 := recsB_len hb b.recs hb.recs
  have h3 := hb.few
  unfold Bat.rest
  rw [List.length_append]
  omega
theorem batE_len {b : Bat} : b.enc.length = 16 + b.rest.length := by
  simp only [Bat.enc, List.length_append, fixed_len]
theorem crcSum_range (l : List UInt8) : crcSum l < 4294967296 := by
  unfold crcSum
  exact (~~~ (crcMore (~~~ 0#32) l)).isLt
theorem opt_yes {l : List UInt8} : opt true l = put l.length ++ l := rfl
theorem opt_no {l : List UInt8} : opt false l = put (-1) := rfl

theorem refBody {r : Rec} {b : Bat} {x : Int} (hx : x = b.first) (hb : b.fine) (hr : r.fine b) : CallOK Try.prog 133 [r.av, .int .i64 x, .int .i64 b.base] [] 0 (Out (bs (r.body b.first b.base)) [] 0) := by
  subst hx
  have h1 := first_time hb
  have hh := hb.head
  unfold HeadBad at hh
  have hr' := hr
  unfold Rec.fine at hr'
  have n1 : I64 (r.time - b.first) := by unfold I64; omega
  have n2 : I64 (r.off - b.base) := by unfold I64; omega
  have n3 : I64 (-1) := by unfold I64; omega
  have p1 := put_len n1
  have p2 := put_len n2
  have p3 := put_len n3
  have k1 := put_len (n := r.key.length) (by unfold I64; omega)
  have k2 := put_len (n := r.val.length) (by unfold I64; omega)
  have e1 : IntKind.i64.wrap (r.time - b.first) = r.time - b.first := by rw [IntKind.wrap_i64]; omega
  have e2 : IntKind.i64.wrap (r.off - b.base) = r.off - b.base := by rw [IntKind.wrap_i64]; omega
  refine CallOK.fit (by decide) ?_
  refine callOK Try.call133 Try.func133 Try.ntmps133 rfl ?_
  conv => arg 4; whnf
  rw [e1]
  refine callT (refPutT n1) (ClL.cons (Cl.int _ _) ClL.nil) (ClL.u8s _) fun s => ?_
  conv => arg 4; whnf
  refine ⟨rfl, ?_⟩
  conv => arg 4; whnf
  rw [e2]
  refine call0 (refPut n2) (ClL.cons (Cl.int _ _) ClL.nil) (Cl.bs _) ?_
  conv => arg 4; whnf
  refine ⟨⟨by first | rfl | trivial, sizeOk 1 rfl ?_⟩, ?_⟩
  · simp [u8s_length]; omega
  conv => arg 4; whnf
  refine ⟨fun hk => ?_, fun hk => ?_⟩
  · conv => arg 4; whnf
    refine call0 (refBytes (b := r.key) (by omega)) (ClL.cons (Cl.bs _) ClL.nil) (Cl.bs _) ?_
    conv => arg 4; whnf
    refine ⟨⟨by first | rfl | trivial, sizeOk 1 rfl ?_⟩, ?_⟩
    · simp [u8s_length]; omega
    conv => arg 4; whnf
    refine ⟨fun hv => ?_, fun hv => ?_⟩
    · conv => arg 4; whnf
      refine call0 (refBytes (b := r.val) (by omega)) (ClL.cons (Cl.bs _) ClL.nil) (Cl.bs _) ?_
      conv => arg 4; whnf
      refine ⟨⟨by first | rfl | trivial, sizeOk 1 rfl ?_⟩, ?_⟩
      · simp [u8s_length]; omega
      conv => arg 4; whnf
      refine ⟨by decide, Le.noneOf ?_, trivial, (Cl.bs _) _, trivial⟩
      simp only [Rec.body, hk, hv, opt_yes, u8s_append]
    · conv => arg 4; whnf
      refine call0 (refPut n3) (ClL.cons (Cl.int _ _) ClL.nil) (Cl.bs _) ?_
      conv => arg 4; whnf
      refine ⟨⟨by first | rfl | trivial, sizeOk 1 rfl ?_⟩, ?_⟩
      · simp [u8s_length]; omega
      conv => arg 4; whnf
      refine ⟨by decide, Le.noneOf ?_, trivial, (Cl.bs _) _, trivial⟩
      simp only [Rec.body, hk, hv, opt_yes, opt_no, u8s_append]
  · conv => arg 4; whnf
    refine call0 (refPut n3) (ClL.cons (Cl.int _ _) ClL.nil) (Cl.bs _) ?_
    conv => arg 4; whnf
    refine ⟨⟨by first | rfl | trivial, sizeOk 1 rfl ?_⟩, ?_⟩
    · simp [u8s_length]; omega
    conv => arg 4; whnf
    refine ⟨fun hv => ?_, fun hv => ?_⟩
    · conv => arg 4; whnf
      refine call0 (refBytes (b := r.val) (by omega)) (ClL.cons (Cl.bs _) ClL.nil) (Cl.bs _) ?_
      conv => arg 4; whnf
      refine ⟨⟨by first | rfl | trivial, sizeOk 1 rfl ?_⟩, ?_⟩
      · simp [u8s_length]; omega
      conv => arg 4; whnf
      refine ⟨by decide, Le.noneOf ?_, trivial, (Cl.bs _) _, trivial⟩
      simp only [Rec.body, hk, hv, opt_yes, opt_no, u8s_append]
    · conv => arg 4; whnf
      refine call0 (refPut n3) (ClL.cons (Cl.int _ _) ClL.nil) (Cl.bs _) ?_
      conv => arg 4; whnf
      refine ⟨⟨by first | rfl | trivial, sizeOk 1 rfl ?_⟩, ?_⟩
      · simp [u8s_length]; omega
      conv => arg 4; whnf
      refine ⟨by decide, Le.noneOf ?_, trivial, (Cl.bs _) _, trivial⟩
      simp only [Rec.body, hk, hv, opt_no, u8s_append]
end Go.Proofs.Ytlifbhcmihnkpaa

namespace Go.Proofs.Ytlifbhcmihnkpaa
set_option maxRecDepth 100000
set_option maxHeartbeats 80000000
open Go.Sym

theorem recs_take {l : List Rec} {i : Nat} {x : Rec} {first base : Int} (h : l[i]? = some x) : recsB (l.take (i + 1)) first base = recsB (l.take i) first base ++ lenB (x.body first base) := by
  unfold recsB
  rw [List.take_add_one, h]
  simp
theorem recs_take_len {b : Bat} (hb : b.fine) (i : Nat) : (recsB (b.recs.take i) b.first b.base).length ≤ 225000 := by
  have h := recsB_len hb (b.recs.take i) fun r hr => hb.recs r (List.mem_of_mem_take hr)
  have := hb.few
  have : (b.recs.take i).length ≤ b.recs.length := by simp; omega
  omega

theorem fits8 {n : Int} (h : 0 ≤ n) : Fits n 8 := ⟨h, by decide, by decide, fun h => by omega⟩
theorem fits2 {n : Int} (h : 0 ≤ n) (k : n < 65536) : Fits n 2 := ⟨h, by decide, by decide, fun _ => k⟩
theorem fits4 {n : Int} (h : 0 ≤ n) (k : n < 4294967296) : Fits n 4 := ⟨h, by decide, by decide, fun _ => k⟩

def batO (b : Bat) : AObj := .cells [.int .i64 b.base, .int .i64 b.last, .int .i64 b.prod, .int .i64 b.epoch, .int .i64 b.seq, recsV b.recs]
theorem renO_batO (ρ : Nat → Nat) (b : Bat) : renO ρ (batO b) = batO b := by
  simp only [batO, renO, renL, ren, ren_recs, renP]
theorem Cl.bsT {n nx t s : Nat} (h : t < n) (l : List UInt8) : ren (cut n nx) (.sl (.tok t s) 0 (u8s l)) = .sl (.tok t s) 0 (u8s l) := cut_ok (by simp only [renP, cut_lt h])

structure EnI (b : Bat) where
  i : Nat
  s : Nat
  hi : i ≤ b.recs.length

theorem refEncode {b : Bat} (hb : b.fine) : CallOK Try.prog 113 [b.av] [] 0 (Out (bs b.enc) [] 0) := by
  have h1 := first_time hb
  have hh := hb.head
  unfold HeadBad at hh
  have hf := hb.few
  have w1 : IntKind.i64.wrap (b.last - b.base) = b.last - b.base := by rw [IntKind.wrap_i64]; omega
  refine CallOK.fit (by decide) ?_
  refine callOK Try.call113 Try.func113 Try.ntmps113 rfl ?_
  conv => arg 4; whnf
  refine ⟨fun h => ?_, fun h => ?_⟩
  case' refine_1 =>
    obtain ⟨r, l, hr⟩ : ∃ r l, b.recs = r :: l := by
      cases hr : b.recs with
      | nil => simp [hr, recsL] at h
      | cons r l => exact ⟨r, l, rfl⟩
    have hx : r.time = b.first := by simp [Bat.first, hr]
    conv => arg 4; whnf
    refine ⟨r.av, ⟨by decide, by rw [hr]; rfl⟩, ?_⟩
    (conv => arg 4; whnf); repeat (refine ⟨rfl, ?_⟩; conv => arg 4; whnf)
    rw [w1]
    refine call0 (refFixedF' (n := b.last - b.base) (size := 8) (by unfold I64; omega) (fits8 (by omega))) (ClL.cons (Cl.int _ _) (ClL.cons (Cl.int _ _) ClL.nil)) (Cl.slFull (ClL.u8s _)) ?_
    (conv => arg 4; whnf); repeat (refine ⟨rfl, ?_⟩; conv => arg 4; whnf)
    refine call0 (refFixed' (n := _) (size := 8) (by unfold I64; omega) (fits8 (by omega))) (ClL.cons (Cl.int _ _) (ClL.cons (Cl.int _ _) ClL.nil)) (Cl.bs _) ?_
    (conv => arg 4; whnf); repeat (refine ⟨rfl, ?_⟩; conv => arg 4; whnf)
    refine ⟨sizeOk 1 rfl ?_, ?_⟩
    · simp [u8s_length, fixed_len]
    (conv => arg 4; whnf); repeat (refine ⟨rfl, ?_⟩; conv => arg 4; whnf)
    refine call0 (refFixed' (n := b.prod) (size := 8) (by unfold I64; omega) (fits8 (by omega))) (ClL.cons (Cl.int _ _) (ClL.cons (Cl.int _ _) ClL.nil)) (Cl.bs _) ?_
    (conv => arg 4; whnf); repeat (refine ⟨rfl, ?_⟩; conv => arg 4; whnf)
    refine ⟨⟨by first | rfl | trivial, sizeOk 1 rfl ?_⟩, ?_⟩
    · simp [u8s_length, fixed_len]
    (conv => arg 4; whnf); repeat (refine ⟨rfl, ?_⟩; conv => arg 4; whnf)
    refine call0 (refFixed' (n := b.epoch) (size := 2) (by unfold I64; omega) (fits2 (by omega) (by omega))) (ClL.cons (Cl.int _ _) (ClL.cons (Cl.int _ _) ClL.nil)) (Cl.bs _) ?_
    (conv => arg 4; whnf); repeat (refine ⟨rfl, ?_⟩; conv => arg 4; whnf)
    refine ⟨⟨by first | rfl | trivial, sizeOk 1 rfl ?_⟩, ?_⟩
    · simp [u8s_length, fixed_len]
    (conv => arg 4; whnf); repeat (refine ⟨rfl, ?_⟩; conv => arg 4; whnf)
    refine call0 (refFixed' (n := b.seq) (size := 4) (by unfold I64; omega) (fits4 (by omega) (by omega))) (ClL.cons (Cl.int _ _) (ClL.cons (Cl.int _ _) ClL.nil)) (Cl.bs _) ?_
    (conv => arg 4; whnf); repeat (refine ⟨rfl, ?_⟩; conv => arg 4; whnf)
    refine ⟨⟨by first | rfl | trivial, sizeOk 1 rfl ?_⟩, ?_⟩
    · simp [u8s_length, fixed_len]
    (conv => arg 4; whnf); repeat (refine ⟨rfl, ?_⟩; conv => arg 4; whnf)
    rw [recs_length]
    refine call0 (refFixed' (n := b.recs.length) (size := 4) (by unfold I64; omega) (fits4 (by omega) (by omega))) (ClL.cons (Cl.int _ _) (ClL.cons (Cl.int _ _) ClL.nil)) (Cl.bs _) ?_
    (conv => arg 4; whnf); repeat (refine ⟨rfl, ?_⟩; conv => arg 4; whnf)
    refine ⟨⟨by first | rfl | trivial, sizeOk 1 rfl ?_⟩, ?_⟩
    · simp [u8s_length, fixed_len]
    (conv => arg 4; whnf); repeat (refine ⟨rfl, ?_⟩; conv => arg 4; whnf)
    refine tri_loopG (ι := EnI b) (fun a => ⟨[(5, .int .i64 a.i), (4, .sl (.tok 1 a.s) 0 (u8s (b.head ++ recsB (b.recs.take a.i) b.first b.base))), (3, .int .i64 b.first), (1, .ptr 0 0)], [(1, .tip a.s), (0, batO b)], 2, 78⟩) (fun a => b.recs.length - a.i) ⟨0, 4, Nat.zero_le _⟩ (WkG.of rfl rfl ⟨Le.refl _ _, Le.of_eq ?_, Le.of_eq (congrArg _ hx), Le.refl _ _, trivial⟩ ⟨⟨_, rfl, LeO.refl _ _⟩, ⟨_, rfl, LeO.refl _ _⟩, trivial⟩ ⟨rfl, Cl.bsT (by decide) _, rfl, rfl, trivial⟩ ⟨⟨by decide, rfl⟩, ⟨by decide, renO_batO _ _⟩, trivial⟩) ?_
    · conv => lhs; whnf
      simp only [Bat.head, u8s_append, hx, recsB, List.take_zero, List.map_nil, List.flatten_nil, List.append_nil]
      rfl

  case' refine_2 =>
    have hx : 0 = b.first := by
      cases hr : b.recs with
      | nil => simp [Bat.first, hr]
      | cons r l => simp [hr, recsL] at h
    (conv => arg 4; whnf); repeat (refine ⟨rfl, ?_⟩; conv => arg 4; whnf)
    rw [w1]
    refine call0 (refFixedF' (n := b.last - b.base) (size := 8) (by unfold I64; omega) (fits8 (by omega))) (ClL.cons (Cl.int _ _) (ClL.cons (Cl.int _ _) ClL.nil)) (Cl.slFull (ClL.u8s _)) ?_
    (conv => arg 4; whnf); repeat (refine ⟨rfl, ?_⟩; conv => arg 4; whnf)
    refine call0 (refFixed' (n := _) (size := 8) (by unfold I64; omega) (fits8 (by omega))) (ClL.cons (Cl.int _ _) (ClL.cons (Cl.int _ _) ClL.nil)) (Cl.bs _) ?_
    (conv => arg 4; whnf); repeat (refine ⟨rfl, ?_⟩; conv => arg 4; whnf)
    refine ⟨sizeOk 1 rfl ?_, ?_⟩
    · simp [u8s_length, fixed_len]
    (conv => arg 4; whnf); repeat (refine ⟨rfl, ?_⟩; conv => arg 4; whnf)
    refine call0 (refFixed' (n := b.prod) (size := 8) (by unfold I64; omega) (fits8 (by omega))) (ClL.cons (Cl.int _ _) (ClL.cons (Cl.int _ _) ClL.nil)) (Cl.bs _) ?_
    (conv => arg 4; whnf); repeat (refine ⟨rfl, ?_⟩; conv => arg 4; whnf)
    refine ⟨⟨by first | rfl | trivial, sizeOk 1 rfl ?_⟩, ?_⟩
    · simp [u8s_length, fixed_len]
    (conv => arg 4; whnf); repeat (refine ⟨rfl, ?_⟩; conv => arg 4; whnf)
    refine call0 (refFixed' (n := b.epoch) (size := 2) (by unfold I64; omega) (fits2 (by omega) (by omega))) (ClL.cons (Cl.int _ _) (ClL.cons (Cl.int _ _) ClL.nil)) (Cl.bs _) ?_
    (conv => arg 4; whnf); repeat (refine ⟨rfl, ?_⟩; conv => arg 4; whnf)
    refine ⟨⟨by first | rfl | trivial, sizeOk 1 rfl ?_⟩, ?_⟩
    · simp [u8s_length, fixed_len]
    (conv => arg 4; whnf); repeat (refine ⟨rfl, ?_⟩; conv => arg 4; whnf)
    refine call0 (refFixed' (n := b.seq) (size := 4) (by unfold I64; omega) (fits4 (by omega) (by omega))) (ClL.cons (Cl.int _ _) (ClL.cons (Cl.int _ _) ClL.nil)) (Cl.bs _) ?_
    (conv => arg 4; whnf); repeat (refine ⟨rfl, ?_⟩; conv => arg 4; whnf)
    refine ⟨⟨by first | rfl | trivial, sizeOk 1 rfl ?_⟩, ?_⟩
    · simp [u8s_length, fixed_len]
    (conv => arg 4; whnf); repeat (refine ⟨rfl, ?_⟩; conv => arg 4; whnf)
    rw [recs_length]
    refine call0 (refFixed' (n := b.recs.length) (size := 4) (by unfold I64; omega) (fits4 (by omega) (by omega))) (ClL.cons (Cl.int _ _) (ClL.cons (Cl.int _ _) ClL.nil)) (Cl.bs _) ?_
    (conv => arg 4; whnf); repeat (refine ⟨rfl, ?_⟩; conv => arg 4; whnf)
    refine ⟨⟨by first | rfl | trivial, sizeOk 1 rfl ?_⟩, ?_⟩
    · simp [u8s_length, fixed_len]
    (conv => arg 4; whnf); repeat (refine ⟨rfl, ?_⟩; conv => arg 4; whnf)
    refine tri_loopG (ι := EnI b) (fun a => ⟨[(5, .int .i64 a.i), (4, .sl (.tok 1 a.s) 0 (u8s (b.head ++ recsB (b.recs.take a.i) b.first b.base))), (3, .int .i64 b.first), (1, .ptr 0 0)], [(1, .tip a.s), (0, batO b)], 2, 78⟩) (fun a => b.recs.length - a.i) ⟨0, 4, Nat.zero_le _⟩ (WkG.of rfl rfl ⟨Le.refl _ _, Le.of_eq ?_, Le.of_eq (congrArg _ hx), Le.refl _ _, trivial⟩ ⟨⟨_, rfl, LeO.refl _ _⟩, ⟨_, rfl, LeO.refl _ _⟩, trivial⟩ ⟨rfl, Cl.bsT (by decide) _, rfl, rfl, trivial⟩ ⟨⟨by decide, rfl⟩, ⟨by decide, renO_batO _ _⟩, trivial⟩) ?_
    · conv => lhs; whnf
      simp only [Bat.head, u8s_append, hx, recsB, List.take_zero, List.map_nil, List.flatten_nil, List.append_nil]
      rfl
  all_goals
    intro a
    have hi := a.hi
    have hlen := recs_take_len hb a.i
    have hhl := head_len b
    conv => arg 4; whnf
    refine ⟨fun h => ?_, fun h => ?_⟩
    · have hi : a.i < b.recs.length := by rw [recs_length] at h; simp at h; omega
      obtain ⟨x, hx⟩ : ∃ x, b.recs[a.i]? = some x := ⟨_, List.getElem?_eq_getElem hi⟩
      have hg := recs_get hx
      conv => arg 4; whnf
      refine ⟨x.av, ⟨by omega, hg⟩, ?_⟩
      (conv => arg 4; whnf); repeat (refine ⟨rfl, ?_⟩; conv => arg 4; whnf)
      have hxf := hb.recs x (List.mem_of_getElem? hx)
      have hbl := body_len hb hxf
      have hxk := hxf
      unfold Rec.fine at hxk
      have hpl := put_len (n := (x.body b.first b.base).length) (by unfold I64; omega)
      refine call0 (refBody rfl hb hxf) (ClL.cons (Cl.rec x) (ClL.cons (Cl.int _ _) (ClL.cons (Cl.int _ _) ClL.nil))) (Cl.bs _) ?_
      (conv => arg 4; whnf); repeat (refine ⟨rfl, ?_⟩; conv => arg 4; whnf)
      refine call0 (refBytes (by omega)) (ClL.cons (Cl.bs _) ClL.nil) (Cl.bs _) ?_
      (conv => arg 4; whnf); repeat (refine ⟨rfl, ?_⟩; conv => arg 4; whnf)
      refine ⟨⟨rfl, sizeOk 1 rfl ?_⟩, ?_⟩
      · rw [List.length_append, u8s_length, u8s_length, List.length_append, List.length_append]; omega
      (conv => arg 4; whnf); repeat (refine ⟨rfl, ?_⟩; conv => arg 4; whnf)
      refine ⟨⟨a.i + 1, a.s + 1, hi⟩, by show b.recs.length - (a.i + 1) < b.recs.length - a.i; omega, WkG.of rfl rfl ⟨Le.of_eq (succ_int (by omega)), Le.of_eq (congrArg (AV.sl _ 0) ?_), Le.refl _ _, Le.refl _ _, trivial⟩ ⟨⟨_, rfl, LeO.refl _ _⟩, ⟨_, rfl, LeO.refl _ _⟩, trivial⟩ ⟨rfl, Cl.bsT (by decide) _, rfl, rfl, trivial⟩ ⟨⟨by decide, rfl⟩, ⟨by decide, renO_batO _ _⟩, trivial⟩⟩
      rw [← u8s_append, recs_take hx, List.append_assoc]
      rfl
    · have hi : a.i = b.recs.length := by rw [recs_length] at h; simp at h; omega
      conv => arg 4; whnf
      have hrest : b.head ++ recsB (b.recs.take a.i) b.first b.base = b.rest := by rw [hi, List.take_length]; rfl
      rw [hrest]
      have hrl := rest_len hb
      have hcs := crcSum_range b.rest
      refine fin_exit ?_
      show holds _ _ _ _
      conv => arg 4; whnf
      refine call0 (refFixedF' (n := b.base) (size := 8) (by unfold I64; omega) (fits8 (by omega))) (ClL.cons (Cl.int _ _) (ClL.cons (Cl.int _ _) ClL.nil)) (Cl.slFull (ClL.u8s _)) ?_
      (conv => arg 4; whnf); repeat (refine ⟨rfl, ?_⟩; conv => arg 4; whnf)
      have w2 : IntKind.i64.wrap (((u8s b.rest).length : Int) + 4) = ((b.rest.length + 4 : Nat) : Int) := by rw [u8s_length, IntKind.wrap_i64]; omega
      rw [w2]
      refine call0 (refFixed' (n := ((b.rest.length + 4 : Nat) : Int)) (size := 4) (by unfold I64; omega) (fits4 (by omega) (by omega))) (ClL.cons (Cl.int _ _) (ClL.cons (Cl.int _ _) ClL.nil)) (Cl.bs _) ?_
      (conv => arg 4; whnf); repeat (refine ⟨rfl, ?_⟩; conv => arg 4; whnf)
      refine ⟨sizeOk 1 rfl ?_, ?_⟩
      · simp [u8s_length, fixed_len]
      (conv => arg 4; whnf); repeat (refine ⟨rfl, ?_⟩; conv => arg 4; whnf)
      refine holds_args (args' := [bs b.rest]) ⟨Le.none, trivial⟩ (call0 (refSum (by omega)) (ClL.cons (Cl.bs _) ClL.nil) (Cl.int _ _) ?_)
      (conv => arg 4; whnf); repeat (refine ⟨rfl, ?_⟩; conv => arg 4; whnf)
      have w3 : IntKind.i64.wrap (crcSum b.rest : Int) = ((crcSum b.rest : Nat) : Int) := by rw [IntKind.wrap_i64]; omega
      rw [w3]
      refine call0 (refFixed' (n := ((crcSum b.rest : Nat) : Int)) (size := 4) (by unfold I64; omega) (fits4 (by omega) (by omega))) (ClL.cons (Cl.int _ _) (ClL.cons (Cl.int _ _) ClL.nil)) (Cl.bs _) ?_
      (conv => arg 4; whnf); repeat (refine ⟨rfl, ?_⟩; conv => arg 4; whnf)
      refine ⟨⟨by first | rfl | trivial, sizeOk 1 rfl ?_⟩, ?_⟩
      · simp [u8s_length, fixed_len]
      (conv => arg 4; whnf); repeat (refine ⟨rfl, ?_⟩; conv => arg 4; whnf)
      refine ⟨⟨by first | rfl | trivial, sizeOk 1 rfl ?_⟩, ?_⟩
      · simp only [List.length_append, u8s_length, fixed_len]; have e4 : Int.toNat 4 = 4 := rfl; have e8 : Int.toNat 8 = 8 := rfl; omega
      (conv => arg 4; whnf); repeat (refine ⟨rfl, ?_⟩; conv => arg 4; whnf)
      refine ⟨by decide, Le.noneOf ?_, trivial, (Cl.bs _) _, trivial⟩
      simp only [Bat.enc, u8s_append]
      rfl
end Go.Proofs.Ytlifbhcmihnkpaa

namespace Go.Proofs.Ytlifbhcmihnkpaa
set_option maxRecDepth 100000
set_option maxHeartbeats 80000000
open Go.Sym

def growRen : Go.Shelf.Ren := ⟨fun n => match n with | 4 => 145 | n => n, fun n => match n with | 22 => 25 | 25 => 5 | n => n, fun n => n⟩

theorem growLays : Lays8.n4 Try.prog growRen where
  mixed := rfl
  f4 := ⟨"slices.Grow[[]byte,byte]", by decide, Try.func145⟩
  t0 := Try.underlying0
  a0 := Try.isAgg0
  z0 := Try.sizeOf0
  v0 := Try.zeroValue0
  t3 := Try.underlying3
  a3 := Try.isAgg3
  z3 := Try.sizeOf3
  v3 := Try.zeroValue3
  t4 := Try.underlying4
  a4 := Try.isAgg4
  z4 := Try.sizeOf4
  v4 := Try.zeroValue4
  t9 := Try.underlying9
  a9 := Try.isAgg9
  z9 := Try.sizeOf9
  v9 := Try.zeroValue9
  t20 := Try.underlying20
  a20 := Try.isAgg20
  z20 := Try.sizeOf20
  v20 := Try.zeroValue20
  t22 := Try.underlying25
  a22 := Try.isAgg25
  z22 := Try.sizeOf25
  v22 := Try.zeroValue25

theorem grow {n : Nat} (hn : n ≤ 100000000000) : CallOK Try.prog 145 [.nils, .int .i64 n] [] 0 (NewSl 0 (u8s [])) := by
  suffices hs : CallOK Try.prog 145 [.nils, .int .i64 n] [] 0 (fun a h m => Out .nils [] 0 a h m ∨ Out (.sl (.tok 0 0) 0 []) [(0, .tip 0)] 1 a h m) from
    hs.ghost fun a h m ho => by
      rcases ho with ⟨e1, e2, e3⟩ | ⟨e1, e2, e3⟩ <;> subst e1 <;> subst e2 <;> subst e3
      · exact ⟨_, [(0, .tip 0)], 1, by omega, (Gh.token 0 _ [] 0).trans (Gh.le (fun _ => Le.nilsTok rfl) (fun id o hg => ⟨o, hg, LeO.refl _ _⟩)), 0, rfl, rfl, rfl⟩
      · exact ⟨_, [(0, .tip 0)], 1, by omega, .refl _ _ _ _, 0, rfl, rfl, rfl⟩
  refine ⟨Try.call145, fun F V w vs i hf hr => ?_⟩
  have hvs : vs.toArray = #[.slice none 0 0, .int .i64 n] := by
    simp only [repL, rep] at hr
    obtain ⟨a, r, rfl, rfl, b, r2, rfl, rfl, rfl⟩ := hr
    rfl
  rw [hvs]
  rcases Nat.eq_zero_or_pos n with rfl | hp
  · refine (Any8.slices_Grow_room growLays none 0 0 0 w (by omega) (by omega) (by omega) (by omega)).mono ?_
    rintro e w' ⟨rfl, rfl⟩
    exact ⟨_, F, V, .nils, [], 0, rfl, .refl .., i, hf, by simp [rep], .inl ⟨rfl, rfl, rfl⟩⟩
  · have := Any8.slices_Grow_grow growLays _ (.int .u8 0) rfl rfl (by decide) none 0 0 n [] w (by omega) (by omega) (by show (0 + n) * 1 ≤ _; omega) (by omega) (by simp) (by simp) (by simp)
    refine this.mono ?_
    rintro e w' ⟨rfl, rfl⟩
    obtain ⟨G, hG⟩ : ∃ G, G = grownCap w (0 + n) 0 (growRen.t 25) := ⟨_, rfl⟩
    have hGn : 0 + n ≤ G := by rw [hG]; exact grownCap_ge w _ _ _
    rw [← hG]
    obtain ⟨all, hall⟩ : ∃ all : Array Value, all = ([] : List Value).toArray ++ Builtin.zeroCells (Value.int .u8 0).cells (0 + n - 0) ++ Builtin.zeroCells (Value.int .u8 0).cells (G - (0 + n)) := ⟨_, rfl⟩
    rw [← hall]
    have hsz : all.size = G := by
      rw [hall]
      simp only [Array.size_append, size_zeroCells, List.size_toArray, List.length_nil]
      show 0 + (0 + n - 0) * 1 + (G - (0 + n)) * 1 = G
      omega
    obtain ⟨i2, s2⟩ := Inv.tokAlloc (t := 0) (st := 0) (m := 0) (h' := [(0, .tip 0)]) (e := growRen.t 25) (all := all) (w' := w.drew.alloc (.cells all (growRen.t 25))) i rfl rfl rfl rfl (Nat.le_succ _) (Nat.zero_le _) (fun y hy => by rw [(hf 0 (Nat.le_refl _)).2] at hy; cases hy) (fun id' o hg => by
      rw [get_cons'] at hg
      split at hg
      · rename_i h0; cases hg; exact .inl ⟨h0.symm, rfl⟩
      · simp [Sym.get] at hg)
    refine ⟨_, _, _, .sl (.tok 0 0) 0 [], [(0, .tip 0)], 1, rfl, s2, i2, ?_, ?_, .inr ⟨rfl, rfl, rfl⟩⟩
    · exact fresh_setTok (fun id hid => hf id (by omega)) (by omega)
    · simp only [rep]
      refine .inl ⟨w.heap.size, 0, G, [], rfl, by simp [repL], by simp, fun j y hy => by simp [flat] at hy, Nat.zero_le _, ⟨some w.heap.size, 0, 0, all.size⟩, by simp [View.setTok], Nat.le_refl _, fun _ => .inr ⟨rfl, by simp, ?_⟩⟩
      show 0 + G * 1 ≤ all.size
      omega
end Go.Proofs.Ytlifbhcmihnkpaa

namespace Go.Proofs.Ytlifbhcmihnkpaa
set_option maxRecDepth 100000
set_option maxHeartbeats 80000000
open Go.Sym

def blsL (ls : List (List UInt8)) : List AV := ls.map fun l => .sl .none 0 (u8s l)
theorem ClL.bls (ls : List (List UInt8)) : ClL (blsL ls) := ClL.map (fun l => Cl.bs l) ls
theorem bls_get {ls : List (List UInt8)} {i : Nat} {x : List UInt8} (h : ls[i]? = some x) : (blsL ls)[((i : Nat) : Int).toNat]? = some (.sl .none 0 (u8s x)) := by
  simp [blsL, h]
theorem bls_length (ls : List (List UInt8)) : (blsL ls).length = ls.length := by simp [blsL]

structure CcJ (ls : List (List UInt8)) where
  i : Nat
  s : Nat
  hi : i ≤ ls.length

structure CcI (ls : List (List UInt8)) where
  i : Nat
  hi : i ≤ ls.length

theorem flat_take {ls : List (List UInt8)} {i : Nat} {x : List UInt8} (h : ls[i]? = some x) : (ls.take (i + 1)).flatten = (ls.take i).flatten ++ x := by
  rw [List.take_add_one, h]; simp
theorem flat_take_le (ls : List (List UInt8)) (i : Nat) : (ls.take i).flatten.length ≤ ls.flatten.length := by
  conv => rhs; rw [← List.take_append_drop i ls, List.flatten_append, List.length_append]
  omega

theorem concat {ls : List (List UInt8)} (hl : ls.length ≤ 1000000) (ht : ls.flatten.length ≤ 1000000000) : CallOK Try.prog 129 [.sl .none 0 (blsL ls)] [] 0 (NewSl 0 (u8s ls.flatten)) := by
  refine callOK Try.call129 Try.func129 Try.ntmps129 rfl ?_
  conv => arg 4; whnf
  have cl : ∀ ρ, ren ρ (.sl .none 0 (blsL ls)) = .sl .none 0 (blsL ls) := Cl.sl (ClL.bls ls)
  rw [bls_length]
  refine tri_loopG (ι := CcI ls) (fun a => ⟨[(11, .int .i64 a.i), (10, .int .i64 ls.length), (9, .sl .none 0 (blsL ls)), (3, .int .i64 (ls.take a.i).flatten.length), (0, .sl .none 0 (blsL ls))], [], 0, 36⟩) (fun a => ls.length - a.i) ⟨0, Nat.zero_le _⟩ (WkG.of rfl rfl ⟨Le.refl _ _, Le.refl _ _, Le.refl _ _, Le.refl _ _, Le.refl _ _, trivial⟩ trivial ⟨rfl, rfl, cl _, rfl, cl _, trivial⟩ trivial) ?_
  intro a
  have hai := a.hi
  conv => arg 4; whnf
  refine ⟨fun h => ?_, fun h => ?_⟩
  · have hi : a.i < ls.length := by simp at h; omega
    obtain ⟨x, hx⟩ : ∃ x, ls[a.i]? = some x := ⟨_, List.getElem?_eq_getElem hi⟩
    have hg := bls_get hx
    have h1 := flat_take hx
    have h2 := flat_take_le ls (a.i + 1)
    have h3 : (ls.take (a.i + 1)).flatten.length = (ls.take a.i).flatten.length + x.length := by rw [h1, List.length_append]
    conv => arg 4; whnf
    refine ⟨_, ⟨by omega, hg⟩, ?_⟩
    (conv => arg 4; whnf); repeat (refine ⟨rfl, ?_⟩; conv => arg 4; whnf)
    have e : IntKind.i64.wrap (((ls.take a.i).flatten.length : Int) + ((u8s x).length : Int)) = (((ls.take (a.i + 1)).flatten.length : Nat) : Int) := by rw [u8s_length, IntKind.wrap_i64, h3]; omega
    rw [e]
    refine ⟨fun h => absurd h (by simp), fun _ => ?_⟩
    conv => arg 4; whnf
    exact ⟨⟨a.i + 1, hi⟩, by show ls.length - (a.i + 1) < ls.length - a.i; omega, WkG.of rfl rfl ⟨Le.of_eq (succ_int (by omega)), Le.refl _ _, Le.refl _ _, Le.refl _ _, Le.refl _ _, trivial⟩ trivial ⟨rfl, rfl, cl _, rfl, cl _, trivial⟩ trivial⟩
  · have hi : a.i = ls.length := by simp at h; omega
    rw [hi, List.take_length]
    conv => arg 4; whnf
    refine fin_exit ?_
    show holds _ _ _ _
    conv => arg 4; whnf
    refine callT (grow (n := ls.flatten.length) (by omega)) (ClL.cons Cl.nils (ClL.cons (Cl.int _ _) ClL.nil)) (ClL.u8s _) fun s => ?_
    (conv => arg 4; whnf); repeat (refine ⟨rfl, ?_⟩; conv => arg 4; whnf)
    rw [bls_length]
    refine tri_loopG (ι := CcJ ls) (fun a => ⟨[(27, .int .i64 a.i), (26, .int .i64 ls.length), (25, .sl .none 0 (blsL ls)), (6, .sl (.tok 0 a.s) 0 (u8s (ls.take a.i).flatten))], [(0, .tip a.s)], 1, 36⟩) (fun a => ls.length - a.i) ⟨0, s, Nat.zero_le _⟩ (WkG.of rfl rfl ⟨Le.refl _ _, Le.refl _ _, Le.refl _ _, Le.refl _ _, trivial⟩ ⟨⟨_, rfl, LeO.refl _ _⟩, trivial⟩ ⟨rfl, rfl, cl _, cut_ok rfl, trivial⟩ ⟨⟨by decide, rfl⟩, trivial⟩) ?_
    intro a
    have hai := a.hi
    conv => arg 4; whnf
    refine ⟨fun h => ?_, fun h => ?_⟩
    · have hi : a.i < ls.length := by simp at h; omega
      obtain ⟨x, hx⟩ : ∃ x, ls[a.i]? = some x := ⟨_, List.getElem?_eq_getElem hi⟩
      have hg := bls_get hx
      have h1 := flat_take hx
      have h2 := flat_take_le ls (a.i + 1)
      have h3 : (ls.take (a.i + 1)).flatten.length = (ls.take a.i).flatten.length + x.length := by rw [h1, List.length_append]
      conv => arg 4; whnf
      refine ⟨_, ⟨by omega, hg⟩, ?_⟩
      (conv => arg 4; whnf); repeat (refine ⟨rfl, ?_⟩; conv => arg 4; whnf)
      refine ⟨⟨rfl, sizeOk 1 rfl ?_⟩, ?_⟩
      · rw [List.length_append, u8s_length, u8s_length]; omega
      (conv => arg 4; whnf); repeat (refine ⟨rfl, ?_⟩; conv => arg 4; whnf)
      exact ⟨⟨a.i + 1, a.s + 1, hi⟩, by show ls.length - (a.i + 1) < ls.length - a.i; omega, WkG.of rfl rfl ⟨Le.of_eq (succ_int (by omega)), Le.refl _ _, Le.refl _ _, Le.of_eq (congrArg (AV.sl _ 0) (by rw [h1, u8s_append])), trivial⟩ ⟨⟨_, rfl, LeO.refl _ _⟩, trivial⟩ ⟨rfl, rfl, cl _, cut_ok rfl, trivial⟩ ⟨⟨by decide, rfl⟩, trivial⟩⟩
    · have hi : a.i = ls.length := by simp at h; omega
      rw [hi, List.take_length]
      conv => arg 4; whnf
      refine fin_exit ?_
      show holds _ _ _ _
      conv => arg 4; whnf
      exact ⟨a.s, rfl, rfl, rfl⟩
end Go.Proofs.Ytlifbhcmihnkpaa

namespace Go.Proofs.Ytlifbhcmihnkpaa
set_option maxRecDepth 100000
set_option maxHeartbeats 80000000
open Go.Sym

theorem batText {has : Bool} {l : List UInt8} (hl : l.length ≤ 1000000000) : CallOK Try.prog 130 [.bool has, bs l] [] 0 (Out (bs (opt has l)) [] 0) := by
  have n3 : I64 (-1) := by unfold I64; omega
  have n1 : I64 l.length := by unfold I64; omega
  have p1 := put_len n1
  refine CallOK.fit (by decide) ?_
  refine callOK Try.call130 Try.func130 Try.ntmps130 rfl ?_
  conv => arg 4; whnf
  refine ⟨fun h => ?_, fun h => ?_⟩
  · have h : has = false := by simpa using h
    subst h
    conv => arg 4; whnf
    refine call0 (numPut n3) (ClL.cons (Cl.int _ _) ClL.nil) (Cl.bs _) ?_
    (conv => arg 4; whnf); repeat (refine ⟨rfl, ?_⟩; conv => arg 4; whnf)
    refine ⟨by decide, Le.noneOf ?_, trivial, (Cl.bs _) _, trivial⟩
    rfl
  · have h : has = true := by simpa using h
    subst h
    conv => arg 4; whnf
    rw [u8s_length]
    refine callT (numPutT n1) (ClL.cons (Cl.int _ _) ClL.nil) (ClL.u8s _) fun s => ?_
    (conv => arg 4; whnf); repeat (refine ⟨rfl, ?_⟩; conv => arg 4; whnf)
    refine ⟨⟨by first | rfl | trivial, sizeOk 1 rfl ?_⟩, ?_⟩
    · simp [u8s_length]; omega
    (conv => arg 4; whnf); repeat (refine ⟨rfl, ?_⟩; conv => arg 4; whnf)
    refine ⟨by decide, Le.noneOf ?_, trivial, (Cl.bs _) _, trivial⟩
    rw [← u8s_append]
    rfl

/-- The greatest time. -/
def Bat.most (b : Bat) : Int := (b.recs.map Rec.time).foldl max b.first
def timesF (b : Bat) (i : Nat) : Int := if i = 0 then 0 else b.first
def timesM (b : Bat) (i : Nat) : Int := if i = 0 then 0 else ((b.recs.take i).map Rec.time).foldl max b.first

theorem timesM_succ {b : Bat} {i : Nat} {x : Rec} (h : b.recs[i]? = some x) : timesM b (i + 1) = max (if i = 0 then b.first else timesM b i) x.time := by
  unfold timesM
  rw [if_neg (by omega), List.take_add_one, h]
  simp only [Option.toList_some, List.map_append, List.map_cons, List.map_nil, List.foldl_append, List.foldl_cons, List.foldl_nil]
  by_cases hi : i = 0
  · subst hi; simp
  · simp [hi]
theorem times_all (b : Bat) : timesF b b.recs.length = b.first ∧ timesM b b.recs.length = b.most := by
  unfold timesF timesM Bat.most
  by_cases h : b.recs.length = 0
  · have : b.recs = [] := List.eq_nil_of_length_eq_zero h
    simp [this, Bat.first]
  · rw [if_neg h, if_neg h, List.take_length]
    exact ⟨rfl, rfl⟩
theorem first_zero {b : Bat} {x : Rec} (h : b.recs[0]? = some x) : b.first = x.time := by
  unfold Bat.first
  cases hr : b.recs with
  | nil => simp [hr] at h
  | cons r l => simp [hr] at h; rw [h]

structure TmI (b : Bat) where
  i : Nat
  hi : i ≤ b.recs.length

theorem batTimes {b : Bat} (hl : b.recs.length ≤ 1000000) : CallOK Try.prog 68 [b.av] [] 0 (Out (.tup [.int .i64 b.first, .int .i64 b.most]) [] 0) := by
  have cl : ∀ ρ, ren ρ (recsV b.recs) = recsV b.recs := Cl.sl (ClL.recs _)
  refine CallOK.fit (by decide) ?_
  refine callOK Try.call68 Try.func68 Try.ntmps68 rfl ?_
  conv => arg 4; whnf
  rw [recs_length]
  refine tri_loopG (ι := TmI b) (fun a => ⟨[(9, .int .i64 a.i), (8, .int .i64 b.recs.length), (7, recsV b.recs), (2, .int .i64 (timesF b a.i)), (3, .int .i64 (timesM b a.i))], [], 1, 27⟩) (fun a => b.recs.length - a.i) ⟨0, Nat.zero_le _⟩ (WkG.of rfl rfl ⟨Le.refl _ _, Le.refl _ _, Le.refl _ _, Le.refl _ _, Le.refl _ _, trivial⟩ trivial ⟨rfl, rfl, cl _, rfl, rfl, trivial⟩ trivial) ?_
  intro a
  have hai := a.hi
  conv => arg 4; whnf
  refine ⟨fun h => ?_, fun h => ?_⟩
  · have hi : a.i < b.recs.length := by simp at h; omega
    obtain ⟨x, hx⟩ : ∃ x, b.recs[a.i]? = some x := ⟨_, List.getElem?_eq_getElem hi⟩
    have hg := recs_get hx
    have hm := timesM_succ hx
    conv => arg 4; whnf
    refine ⟨_, ⟨by omega, hg⟩, ?_⟩
    (conv => arg 4; whnf); repeat (refine ⟨rfl, ?_⟩; conv => arg 4; whnf)
    refine ⟨fun h0 => ?_, fun h0 => ?_⟩
    · have h0 : a.i = 0 := by simp at h0; omega
      rw [h0] at hx hm
      have hf := first_zero hx
      (conv => arg 4; whnf); repeat (refine ⟨rfl, ?_⟩; conv => arg 4; whnf)
      refine ⟨⟨a.i + 1, hi⟩, by show b.recs.length - (a.i + 1) < b.recs.length - a.i; omega, WkG.of rfl rfl ⟨Le.of_eq (succ_int (by omega)), Le.refl _ _, Le.refl _ _, Le.of_eq (congrArg (AV.int _) ?_), Le.of_eq (congrArg (AV.int _) ?_), trivial⟩ trivial ⟨rfl, rfl, cl _, rfl, rfl, trivial⟩ trivial⟩
      · show x.time = timesF b (a.i + 1)
        rw [← hf]; simp [timesF]
      · show (if x.time > x.time then x.time else x.time) = timesM b (a.i + 1)
        simp [h0, hm, hf]
    · have h0 : a.i ≠ 0 := by simp at h0; omega
      (conv => arg 4; whnf); repeat (refine ⟨rfl, ?_⟩; conv => arg 4; whnf)
      refine ⟨⟨a.i + 1, hi⟩, by show b.recs.length - (a.i + 1) < b.recs.length - a.i; omega, WkG.of rfl rfl ⟨Le.of_eq (succ_int (by omega)), Le.refl _ _, Le.refl _ _, Le.of_eq (congrArg (AV.int _) ?_), Le.of_eq (congrArg (AV.int _) ?_), trivial⟩ trivial ⟨rfl, rfl, cl _, rfl, rfl, trivial⟩ trivial⟩
      · show timesF b a.i = timesF b (a.i + 1)
        simp [timesF, h0]
      · show (if x.time > timesM b a.i then x.time else timesM b a.i) = timesM b (a.i + 1)
        rw [hm, if_neg h0]
        omega
  · have hi : a.i = b.recs.length := by simp at h; omega
    rw [hi, (times_all b).1, (times_all b).2]
    conv => arg 4; whnf
    refine fin_exit ?_
    show holds _ _ _ _
    conv => arg 4; whnf
    exact ⟨by decide, Le.refl _ _, trivial, rfl, trivial⟩

theorem refTimes {b : Bat} (hl : b.recs.length ≤ 1000000) : CallOK Try.prog 69 [b.av] [] 0 (Out (.tup [.int .i64 b.first, .int .i64 b.most]) [] 0) := by
  refine CallOK.fit (by decide) ?_
  refine callOK Try.call69 Try.func69 Try.ntmps69 rfl ?_
  conv => arg 4; whnf
  refine tri_loopG (ι := TmI b) (fun a => ⟨[(6, .int .i64 a.i), (5, .int .i64 (timesM b a.i)), (4, .int .i64 (timesF b a.i)), (1, .ptr 0 0)], [(0, batO b)], 1, 33⟩) (fun a => b.recs.length - a.i) ⟨0, Nat.zero_le _⟩ (WkG.of rfl rfl ⟨Le.refl _ _, Le.refl _ _, Le.refl _ _, Le.refl _ _, trivial⟩ ⟨⟨_, rfl, LeO.refl _ _⟩, trivial⟩ ⟨rfl, rfl, rfl, rfl, trivial⟩ ⟨⟨by decide, renO_batO _ _⟩, trivial⟩) ?_
  intro a
  have hai := a.hi
  conv => arg 4; whnf
  refine ⟨fun h => ?_, fun h => ?_⟩
  · have hi : a.i < b.recs.length := by rw [recs_length] at h; simp at h; omega
    obtain ⟨x, hx⟩ : ∃ x, b.recs[a.i]? = some x := ⟨_, List.getElem?_eq_getElem hi⟩
    have hg := recs_get hx
    have hm := timesM_succ hx
    (conv => arg 4; whnf); repeat (refine ⟨rfl, ?_⟩; conv => arg 4; whnf)
    refine ⟨fun h0 => ?_, fun h0 => ?_⟩
    · have h0 : a.i = 0 := by simp at h0; omega
      rw [h0] at hx hm
      have hf := first_zero hx
      (conv => arg 4; whnf); repeat (refine ⟨rfl, ?_⟩; conv => arg 4; whnf)
      refine ⟨_, ⟨by omega, hg⟩, ?_⟩
      (conv => arg 4; whnf); repeat (refine ⟨rfl, ?_⟩; conv => arg 4; whnf)
      refine ⟨_, ⟨by omega, hg⟩, ?_⟩
      (conv => arg 4; whnf); repeat (refine ⟨rfl, ?_⟩; conv => arg 4; whnf)
      refine ⟨⟨a.i + 1, hi⟩, by show b.recs.length - (a.i + 1) < b.recs.length - a.i; omega, WkG.of rfl rfl ⟨Le.of_eq (succ_int (by omega)), Le.of_eq (congrArg (AV.int _) ?_), Le.of_eq (congrArg (AV.int _) ?_), Le.refl _ _, trivial⟩ ⟨⟨_, rfl, LeO.refl _ _⟩, trivial⟩ ⟨rfl, rfl, rfl, rfl, trivial⟩ ⟨⟨by decide, renO_batO _ _⟩, trivial⟩⟩
      · show (if x.time > x.time then x.time else x.time) = timesM b (a.i + 1)
        simp [h0, hm, hf]
      · show x.time = timesF b (a.i + 1)
        rw [← hf]; simp [timesF]
    · have h0 : a.i ≠ 0 := by simp at h0; omega
      (conv => arg 4; whnf); repeat (refine ⟨rfl, ?_⟩; conv => arg 4; whnf)
      refine ⟨_, ⟨by omega, hg⟩, ?_⟩
      (conv => arg 4; whnf); repeat (refine ⟨rfl, ?_⟩; conv => arg 4; whnf)
      refine ⟨⟨a.i + 1, hi⟩, by show b.recs.length - (a.i + 1) < b.recs.length - a.i; omega, WkG.of rfl rfl ⟨Le.of_eq (succ_int (by omega)), Le.of_eq (congrArg (AV.int _) ?_), Le.of_eq (congrArg (AV.int _) ?_), Le.refl _ _, trivial⟩ ⟨⟨_, rfl, LeO.refl _ _⟩, trivial⟩ ⟨rfl, rfl, rfl, rfl, trivial⟩ ⟨⟨by decide, renO_batO _ _⟩, trivial⟩⟩
      · show (if x.time > timesM b a.i then x.time else timesM b a.i) = timesM b (a.i + 1)
        rw [hm, if_neg h0]
        omega
      · show timesF b a.i = timesF b (a.i + 1)
        simp [timesF, h0]
  · have hi : a.i = b.recs.length := by rw [recs_length] at h; simp at h; omega
    rw [hi, (times_all b).1, (times_all b).2]
    conv => arg 4; whnf
    refine fin_exit ?_
    show holds _ _ _ _
    conv => arg 4; whnf
    exact ⟨by decide, Le.refl _ _, trivial, rfl, trivial⟩
end Go.Proofs.Ytlifbhcmihnkpaa

namespace Go.Proofs.Ytlifbhcmihnkpaa
set_option maxRecDepth 100000
set_option maxHeartbeats 80000000
open Go.Sym

theorem batWritten {b : Bat} (hb : b.fine) : CallOK Try.prog 111 [b.av] [] 0 (Out (bs b.enc) [] 0) := by
  have h1 := first_time hb
  have hh := hb.head
  unfold HeadBad at hh
  have hf := hb.few
  have w1 : IntKind.i64.wrap (b.last - b.base) = b.last - b.base := by rw [IntKind.wrap_i64]; omega
  refine CallOK.fit (by decide) ?_
  refine callOK Try.call111 Try.func111 Try.ntmps111 rfl ?_
  conv => arg 4; whnf
  refine call0 (batTimes (b := b) (by omega)) (ClL.cons (Cl.bat b) ClL.nil) (Cl.tup (ClL.cons (Cl.int _ _) (ClL.cons (Cl.int _ _) ClL.nil))) ?_
  (conv => arg 4; whnf); repeat (refine ⟨rfl, ?_⟩; conv => arg 4; whnf)
  refine holds_args (args' := [.ptr 1 0, .int .i64 (b.last - b.base), .int .i64 8]) ⟨Le.refl _ _, Le.of_eq (congrArg _ w1), Le.refl _ _, trivial⟩ ?_
  refine holds_wnew 1 0 [.bl false] [.bool false] rfl (LeL.cons Le.bl (LeL.nil _)) (by decide) ?_
  refine callWE 1 2 (wFixedT (n := b.last - b.base) (size := 8) (l := []) (by unfold I64; omega) (fits8 (by omega)) (by simp [fixed_len])) (by decide) (by decide) rfl rfl (ClL.u8s _) (ClL.cons (Cl.bool _) ClL.nil) (ClL.u8s _) (ClL.cons (Cl.bool _) ClL.nil) rfl rfl fun s1 => ?_
  (conv => arg 4; whnf); repeat (refine ⟨rfl, ?_⟩; conv => arg 4; whnf)
  refine callWE 1 2 (wFixedT (n := b.first) (size := 8) (by unfold I64; omega) (fits8 (by omega)) (by simp [fixed_len])) (by decide) (by decide) rfl rfl (ClL.u8s _) (ClL.cons (Cl.bool _) ClL.nil) (ClL.u8s _) (ClL.cons (Cl.bool _) ClL.nil) rfl rfl fun s2 => ?_
  (conv => arg 4; whnf); repeat (refine ⟨rfl, ?_⟩; conv => arg 4; whnf)
  refine callWE 1 2 (wFixedT (n := b.prod) (size := 8) (by unfold I64; omega) (fits8 (by omega)) (by simp [fixed_len])) (by decide) (by decide) rfl rfl (ClL.u8s _) (ClL.cons (Cl.bool _) ClL.nil) (ClL.u8s _) (ClL.cons (Cl.bool _) ClL.nil) rfl rfl fun s3 => ?_
  (conv => arg 4; whnf); repeat (refine ⟨rfl, ?_⟩; conv => arg 4; whnf)
  refine callWE 1 2 (wFixedT (n := b.epoch) (size := 2) (by unfold I64; omega) (fits2 (by omega) (by omega)) (by simp [fixed_len])) (by decide) (by decide) rfl rfl (ClL.u8s _) (ClL.cons (Cl.bool _) ClL.nil) (ClL.u8s _) (ClL.cons (Cl.bool _) ClL.nil) rfl rfl fun s4 => ?_
  (conv => arg 4; whnf); repeat (refine ⟨rfl, ?_⟩; conv => arg 4; whnf)
  refine callWE 1 2 (wFixedT (n := b.seq) (size := 4) (by unfold I64; omega) (fits4 (by omega) (by omega)) (by simp [fixed_len])) (by decide) (by decide) rfl rfl (ClL.u8s _) (ClL.cons (Cl.bool _) ClL.nil) (ClL.u8s _) (ClL.cons (Cl.bool _) ClL.nil) rfl rfl fun s5 => ?_
  (conv => arg 4; whnf); repeat (refine ⟨rfl, ?_⟩; conv => arg 4; whnf)
  refine holds_args (args' := [.ptr 1 0, .int .i64 b.recs.length, .int .i64 4]) ⟨Le.refl _ _, Le.of_eq (congrArg (fun n : Nat => AV.int .i64 n) (recs_length _)), Le.refl _ _, trivial⟩ ?_
  refine callWE 1 2 (wFixedT (n := b.recs.length) (size := 4) (by unfold I64; omega) (fits4 (by omega) (by omega)) (by simp [fixed_len])) (by decide) (by decide) rfl rfl (ClL.u8s _) (ClL.cons (Cl.bool _) ClL.nil) (ClL.u8s _) (ClL.cons (Cl.bool _) ClL.nil) rfl rfl fun s6 => ?_
  (conv => arg 4; whnf); repeat (refine ⟨rfl, ?_⟩; conv => arg 4; whnf)
  have e8 : Int.toNat 8 = 8 := rfl
  have e4 : Int.toNat 4 = 4 := rfl
  have e2 : Int.toNat 2 = 2 := rfl
  refine callWD 1 2 (wDoneT (by simp [fixed_len])) (by decide) (by decide) rfl rfl (ClL.u8s _) (ClL.cons (Cl.bool _) ClL.nil) (ClL.u8s _) (ClL.cons (Cl.bool _) ClL.nil) (ClL.u8s _) (ClL.cons (Cl.bl _) ClL.nil) rfl fun s7 => ?_
  (conv => arg 4; whnf); repeat (refine ⟨rfl, ?_⟩; conv => arg 4; whnf)
  have hhead : u8s ([] ++ fixed (b.last - b.base).toNat (Int.toNat 8) ++ fixed b.first.toNat (Int.toNat 8) ++ fixed b.prod.toNat (Int.toNat 8) ++ fixed b.epoch.toNat (Int.toNat 2) ++ fixed b.seq.toNat (Int.toNat 4) ++ fixed ((b.recs.length : Nat) : Int).toNat (Int.toNat 4)) = u8s (b.head ++ recsB (b.recs.take 0) b.first b.base) := by
    simp [Bat.head, recsB]
  have cl : ∀ ρ, ren ρ (recsV b.recs) = recsV b.recs := Cl.sl (ClL.recs _)
  refine tri_loopG (ι := EnI b) (fun a => ⟨[(51, .int .i64 a.i), (50, .int .i64 b.recs.length), (49, recsV b.recs), (6, .sl (.tok 3 a.s) 0 (u8s (b.head ++ recsB (b.recs.take a.i) b.first b.base))), (3, .int .i64 b.first), (1, .ptr 0 0)], [(3, .tip a.s), (0, batO b)], 4, 109⟩) (fun a => b.recs.length - a.i) ⟨0, s7, Nat.zero_le _⟩ (WkG.of rfl rfl ⟨Le.refl _ _, Le.of_eq (congrArg (fun n : Nat => AV.int .i64 n) (recs_length _)), Le.refl _ _, Le.of_eq (congrArg (AV.sl _ 0) hhead), Le.refl _ _, Le.refl _ _, trivial⟩ ⟨⟨_, rfl, LeO.refl _ _⟩, ⟨_, rfl, LeO.refl _ _⟩, trivial⟩ ⟨rfl, rfl, cl _, Cl.bsT (by decide) _, rfl, rfl, trivial⟩ ⟨⟨by decide, rfl⟩, ⟨by decide, renO_batO _ _⟩, trivial⟩) ?_
  intro a
  have hi := a.hi
  have hlen := recs_take_len hb a.i
  have hhl := head_len b
  conv => arg 4; whnf
  refine ⟨fun h => ?_, fun h => ?_⟩
  · have hi : a.i < b.recs.length := by simp at h; omega
    obtain ⟨x, hx⟩ : ∃ x, b.recs[a.i]? = some x := ⟨_, List.getElem?_eq_getElem hi⟩
    have hg := recs_get hx
    have hxf := hb.recs x (List.mem_of_getElem? hx)
    have hbl := body_len hb hxf
    have hxk := hxf
    unfold Rec.fine at hxk
    have hpl := put_len (n := (x.body b.first b.base).length) (by unfold I64; omega)
    have x1 : IntKind.i64.wrap (x.time - b.first) = x.time - b.first := by rw [IntKind.wrap_i64]; omega
    have x2 : IntKind.i64.wrap (x.off - b.base) = x.off - b.base := by rw [IntKind.wrap_i64]; omega
    conv => arg 4; whnf
    refine ⟨x.av, ⟨by omega, hg⟩, ?_⟩
    (conv => arg 4; whnf); repeat (refine ⟨rfl, ?_⟩; conv => arg 4; whnf)
    have y1 : I64 (x.time - b.first) := by unfold I64; omega
    have y2 : I64 (x.off - b.base) := by unfold I64; omega
    refine holds_args (args' := [.int .i64 (x.time - b.first)]) ⟨Le.of_eq (congrArg _ x1), trivial⟩ ?_
    refine call0 (numPut y1) (ClL.cons (Cl.int _ _) ClL.nil) (Cl.bs _) ?_
    (conv => arg 4; whnf); repeat (refine ⟨rfl, ?_⟩; conv => arg 4; whnf)
    refine holds_args (args' := [.int .i64 (x.off - b.base)]) ⟨Le.of_eq (congrArg _ x2), trivial⟩ ?_
    refine call0 (numPut y2) (ClL.cons (Cl.int _ _) ClL.nil) (Cl.bs _) ?_
    (conv => arg 4; whnf); repeat (refine ⟨rfl, ?_⟩; conv => arg 4; whnf)
    refine call0 (batText (has := x.hk) (l := x.key) (by omega)) (ClL.cons (Cl.bool _) (ClL.cons (Cl.bs _) ClL.nil)) (Cl.bs _) ?_
    (conv => arg 4; whnf); repeat (refine ⟨rfl, ?_⟩; conv => arg 4; whnf)
    refine call0 (batText (has := x.hv) (l := x.val) (by omega)) (ClL.cons (Cl.bool _) (ClL.cons (Cl.bs _) ClL.nil)) (Cl.bs _) ?_
    (conv => arg 4; whnf); repeat (refine ⟨rfl, ?_⟩; conv => arg 4; whnf)
    have hbody : [put (x.time - b.first), put (x.off - b.base), opt x.hk x.key, opt x.hv x.val].flatten = x.body b.first b.base := by simp [Rec.body]
    refine holds_args (args' := [.sl .none 0 (blsL [put (x.time - b.first), put (x.off - b.base), opt x.hk x.key, opt x.hv x.val])]) ⟨Le.none, trivial⟩ ?_
    have cc := concat (ls := [put (x.time - b.first), put (x.off - b.base), opt x.hk x.key, opt x.hv x.val]) (by simp) (by rw [hbody]; omega)
    rw [hbody] at cc
    refine callT cc (ClL.cons (Cl.sl (ClL.bls _)) ClL.nil) (ClL.u8s _) fun s8 => ?_
    (conv => arg 4; whnf); repeat (refine ⟨rfl, ?_⟩; conv => arg 4; whnf)
    refine holds_args (args' := [.int .i64 (x.body b.first b.base).length]) ⟨Le.of_eq (congrArg (fun n : Nat => AV.int .i64 n) (u8s_length _)), trivial⟩ ?_
    refine call0 (numPut (by unfold I64; omega)) (ClL.cons (Cl.int _ _) ClL.nil) (Cl.bs _) ?_
    (conv => arg 4; whnf); repeat (refine ⟨rfl, ?_⟩; conv => arg 4; whnf)
    refine ⟨⟨rfl, sizeOk 1 rfl ?_⟩, ?_⟩
    · rw [List.length_append, u8s_length, u8s_length, List.length_append]; omega
    (conv => arg 4; whnf); repeat (refine ⟨rfl, ?_⟩; conv => arg 4; whnf)
    refine ⟨⟨rfl, sizeOk 1 rfl ?_⟩, ?_⟩
    · rw [List.length_append, List.length_append, u8s_length, u8s_length, u8s_length, List.length_append]; omega
    (conv => arg 4; whnf); repeat (refine ⟨rfl, ?_⟩; conv => arg 4; whnf)
    refine ⟨⟨a.i + 1, a.s + 2, hi⟩, by show b.recs.length - (a.i + 1) < b.recs.length - a.i; omega, WkG.of rfl rfl ⟨Le.of_eq (succ_int (by omega)), Le.refl _ _, Le.refl _ _, Le.of_eq (congrArg (AV.sl _ 0) ?_), Le.refl _ _, Le.refl _ _, trivial⟩ ⟨⟨_, rfl, LeO.refl _ _⟩, ⟨_, rfl, LeO.refl _ _⟩, trivial⟩ ⟨rfl, rfl, cl _, Cl.bsT (by decide) _, rfl, rfl, trivial⟩ ⟨⟨by decide, rfl⟩, ⟨by decide, renO_batO _ _⟩, trivial⟩⟩
    rw [← u8s_append, ← u8s_append, recs_take hx]
    simp [lenB]
  · have hi : a.i = b.recs.length := by simp at h; omega
    have hrest : b.head ++ recsB (b.recs.take a.i) b.first b.base = b.rest := by rw [hi, List.take_length]; rfl
    rw [hrest]
    have hrl := rest_len hb
    have hcs := crcSum_range b.rest
    conv => arg 4; whnf
    refine fin_exit ?_
    show holds _ _ _ _
    conv => arg 4; whnf
    refine holds_wnew 4 0 [.bl false] [.bool false] rfl (LeL.cons Le.bl (LeL.nil _)) (by decide) ?_
    refine callWE 4 5 (wFixedT (l := []) (n := b.base) (size := 8) (by unfold I64; omega) (fits8 (by omega)) (by simp [fixed_len])) (by decide) (by decide) rfl rfl (ClL.u8s _) (ClL.cons (Cl.bool _) ClL.nil) (ClL.u8s _) (ClL.cons (Cl.bool _) ClL.nil) rfl rfl fun s9 => ?_
    (conv => arg 4; whnf); repeat (refine ⟨rfl, ?_⟩; conv => arg 4; whnf)
    have w2 : IntKind.i64.wrap (((u8s b.rest).length : Int) + 4) = ((b.rest.length + 4 : Nat) : Int) := by rw [u8s_length, IntKind.wrap_i64]; omega
    refine holds_args (args' := [.ptr 4 0, .int .i64 ((b.rest.length + 4 : Nat) : Int), .int .i64 4]) ⟨Le.refl _ _, Le.of_eq (congrArg _ w2), Le.refl _ _, trivial⟩ ?_
    refine callWE 4 5 (wFixedT (n := ((b.rest.length + 4 : Nat) : Int)) (size := 4) (by unfold I64; omega) (fits4 (by omega) (by omega)) (by simp [fixed_len])) (by decide) (by decide) rfl rfl (ClL.u8s _) (ClL.cons (Cl.bool _) ClL.nil) (ClL.u8s _) (ClL.cons (Cl.bool _) ClL.nil) rfl rfl fun s10 => ?_
    (conv => arg 4; whnf); repeat (refine ⟨rfl, ?_⟩; conv => arg 4; whnf)
    have w3 : IntKind.i64.wrap (crcSum b.rest : Int) = ((crcSum b.rest : Nat) : Int) := by rw [IntKind.wrap_i64]; omega
    refine holds_args (args' := [.sl .none 0 [bs b.rest]]) ⟨Le.slL (LeL.cons Le.none (LeL.nil _)) (fun h => (by cases h)), trivial⟩ (call0 (crcSumC (by omega)) (ClL.cons (Cl.sl (ClL.cons (Cl.bs _) ClL.nil)) ClL.nil) (Cl.int _ _) ?_)
    (conv => arg 4; whnf); repeat (refine ⟨rfl, ?_⟩; conv => arg 4; whnf)
    refine holds_args (args' := [.ptr 4 0, .int .i64 ((crcSum b.rest : Nat) : Int), .int .i64 4]) ⟨Le.refl _ _, Le.of_eq (congrArg _ w3), Le.refl _ _, trivial⟩ ?_
    refine callWE 4 5 (wFixedT (n := ((crcSum b.rest : Nat) : Int)) (size := 4) (by unfold I64; omega) (fits4 (by omega) (by omega)) (by simp [fixed_len])) (by decide) (by decide) rfl rfl (ClL.u8s _) (ClL.cons (Cl.bool _) ClL.nil) (ClL.u8s _) (ClL.cons (Cl.bool _) ClL.nil) rfl rfl fun s11 => ?_
    (conv => arg 4; whnf); repeat (refine ⟨rfl, ?_⟩; conv => arg 4; whnf)
    refine callWD 4 5 (wDoneT (by simp [fixed_len])) (by decide) (by decide) rfl rfl (ClL.u8s _) (ClL.cons (Cl.bool _) ClL.nil) (ClL.u8s _) (ClL.cons (Cl.bool _) ClL.nil) (ClL.u8s _) (ClL.cons (Cl.bl _) ClL.nil) rfl fun s12 => ?_
    (conv => arg 4; whnf); repeat (refine ⟨rfl, ?_⟩; conv => arg 4; whnf)
    refine ⟨⟨by first | rfl | trivial, sizeOk 1 rfl ?_⟩, ?_⟩
    · simp only [List.length_append, u8s_length, fixed_len, List.length_nil]; omega
    (conv => arg 4; whnf); repeat (refine ⟨rfl, ?_⟩; conv => arg 4; whnf)
    refine ⟨by decide, Le.noneOf ?_, trivial, (Cl.bs _) _, trivial⟩
    rw [← u8s_append]
    simp only [List.nil_append, Bat.enc, Int.toNat_natCast]
    rfl
end Go.Proofs.Ytlifbhcmihnkpaa

namespace Go.Proofs.Ytlifbhcmihnkpaa
set_option maxRecDepth 100000
set_option maxHeartbeats 80000000
open Go.Sym

/-- Why one of the records may not be, the first that may not. -/
noncomputable def recsE (b : Bat) : List Rec → Int → Int
  | [], _ => 0
  | r :: l, prev => if recE r b.base b.last prev ≠ 0 then recE r b.base b.last prev else recsE b l r.off
open Classical in
noncomputable def Bat.chk (b : Bat) : Int :=
  if HeadBad b then 1 else if 100 < b.recs.length then 3 else if recsE b b.recs (-1) ≠ 0 then recsE b b.recs (-1) else if 65536 < b.enc.length then 3 else 0

theorem recE_fine {r : Rec} {b : Bat} {prev : Int} (h : recE r b.base b.last prev = 0) : r.fine b ∧ prev < r.off ∧ (r.hk = false → r.key = []) ∧ (r.hv = false → r.val = []) := by
  by_cases h1 : RecBad r b.base b.last prev
  · rw [recE_bad h1] at h; omega
  · by_cases h2 : RecBig r
    · rw [recE_big h1 h2] at h; omega
    · unfold RecBad at h1
      unfold RecBig at h2
      unfold Rec.fine
      refine ⟨by omega, by omega, fun e => ?_, fun e => ?_⟩
      · have : ¬ (r.hk = false ∧ (0 : Int) < r.key.length) := fun x => h1 (.inl (.inr x))
        exact List.eq_nil_of_length_eq_zero (by have h7 : ¬ (0 : Int) < _ := fun k => this ⟨e, k⟩; omega)
      · have : ¬ (r.hv = false ∧ (0 : Int) < r.val.length) := fun x => h1 (.inr x)
        exact List.eq_nil_of_length_eq_zero (by have h7 : ¬ (0 : Int) < _ := fun k => this ⟨e, k⟩; omega)
theorem recsE_fine {b : Bat} : ∀ {l : List Rec} {prev : Int}, recsE b l prev = 0 → ∀ r ∈ l, r.fine b
  | [], _, _ => fun r hr => by cases hr
  | x :: l, prev, h => fun r hr => by
    unfold recsE at h
    by_cases h0 : recE x b.base b.last prev = 0
    · rw [if_neg (by simp [h0])] at h
      rcases List.mem_cons.1 hr with rfl | hr
      · exact (recE_fine h0).1
      · exact recsE_fine h r hr
    · rw [if_pos h0] at h; exact absurd h h0
theorem fine_of {b : Bat} (h1 : ¬ HeadBad b) (h2 : b.recs.length ≤ 100) (h3 : recsE b b.recs (-1) = 0) : b.fine := ⟨h1, h2, recsE_fine h3⟩
theorem chk_head {b : Bat} (h : HeadBad b) : b.chk = 1 := by rw [Bat.chk, if_pos h]
theorem chk_many {b : Bat} (h : ¬ HeadBad b) (h2 : 100 < b.recs.length) : b.chk = 3 := by rw [Bat.chk, if_neg h, if_pos h2]
theorem chk_rec {b : Bat} (h : ¬ HeadBad b) (h2 : ¬ 100 < b.recs.length) (h3 : recsE b b.recs (-1) ≠ 0) : b.chk = recsE b b.recs (-1) := by rw [Bat.chk, if_neg h, if_neg h2, if_pos h3]
theorem chk_big {b : Bat} (h : ¬ HeadBad b) (h2 : ¬ 100 < b.recs.length) (h3 : recsE b b.recs (-1) = 0) (h4 : 65536 < b.enc.length) : b.chk = 3 := by rw [Bat.chk, if_neg h, if_neg h2, if_neg (by simp [h3]), if_pos h4]
theorem chk_ok {b : Bat} (h : ¬ HeadBad b) (h2 : ¬ 100 < b.recs.length) (h3 : recsE b b.recs (-1) = 0) (h4 : ¬ 65536 < b.enc.length) : b.chk = 0 := by rw [Bat.chk, if_neg h, if_neg h2, if_neg (by simp [h3]), if_neg h4]
theorem chk_fine {b : Bat} (h : b.chk = 0) : b.fine ∧ b.enc.length ≤ 65536 ∧ recsE b b.recs (-1) = 0 := by
  by_cases h1 : HeadBad b
  · rw [chk_head h1] at h; omega
  by_cases h2 : 100 < b.recs.length
  · rw [chk_many h1 h2] at h; omega
  by_cases h3 : recsE b b.recs (-1) = 0
  · by_cases h4 : 65536 < b.enc.length
    · rw [chk_big h1 h2 h3 h4] at h; omega
    · exact ⟨fine_of h1 (by omega) h3, by omega, h3⟩
  · rw [chk_rec h1 h2 h3] at h; exact absurd h h3

structure CkI (b : Bat) where
  i : Nat
  prev : Int
  hi : i ≤ b.recs.length
  h : recsE b (b.recs.drop i) prev = recsE b b.recs (-1)

theorem recsE_drop {b : Bat} {i : Nat} {x : Rec} {prev : Int} (hx : b.recs[i]? = some x) : recsE b (b.recs.drop i) prev = if recE x b.base b.last prev ≠ 0 then recE x b.base b.last prev else recsE b (b.recs.drop (i + 1)) x.off := by
  have hi : i < b.recs.length := by
    rcases Nat.lt_or_ge i b.recs.length with h | h
    · exact h
    · simp [List.getElem?_eq_none h] at hx
  have : b.recs.drop i = x :: b.recs.drop (i + 1) := by
    rw [List.drop_eq_getElem_cons hi]
    simp [List.getElem?_eq_getElem hi] at hx
    rw [hx]
  rw [this]
  rfl

theorem refCheck {b : Bat} (hl : b.recs.length ≤ 1000000) : CallOK Try.prog 64 [b.av] [] 0 (Out (.int .i64 b.chk) [] 0) := by
  refine CallOK.fit (by decide) ?_
  refine callOK Try.call64 Try.func64 Try.ntmps64 rfl ?_
  conv => arg 4; whnf
  refine ⟨fun h => ?_, fun h => ?_⟩
  · simp only [Bool.cond_true_left, Bool.cond_false_right, Bool.or_eq_true, Bool.and_eq_true, Bool.not_eq_true', decide_eq_true_eq, beq_iff_eq, bne_iff_ne, u8s_length, Bool.not_eq_true, gt_iff_lt, ge_iff_le] at h
    have hb : HeadBad b := by unfold HeadBad; omega
    conv => arg 4; whnf
    refine ⟨by decide, Le.of_eq ?_, trivial, (Cl.int _ _) _, trivial⟩
    exact congrArg _ (chk_head hb).symm
  · rw [← Bool.not_eq_true] at h; simp only [Bool.cond_true_left, Bool.cond_false_right, Bool.or_eq_true, Bool.and_eq_true, Bool.not_eq_true', decide_eq_true_eq, beq_iff_eq, bne_iff_ne, u8s_length, gt_iff_lt, ge_iff_le] at h
    have hb : ¬ HeadBad b := by unfold HeadBad; omega
    conv => arg 4; whnf
    refine ⟨fun h2 => ?_, fun h2 => ?_⟩
    · have h2 : 100 < b.recs.length := by rw [recs_length] at h2; simp at h2; omega
      conv => arg 4; whnf
      refine ⟨by decide, Le.of_eq ?_, trivial, (Cl.int _ _) _, trivial⟩
      exact congrArg _ (chk_many hb h2).symm
    · have h2 : ¬ 100 < b.recs.length := by rw [recs_length] at h2; simp at h2; omega
      conv => arg 4; whnf
      refine tri_loopG (ι := CkI b) (fun a => ⟨[(4, .int .i64 a.i), (3, .int .i64 a.prev), (1, .ptr 0 0)], [(0, batO b)], 1, 103⟩) (fun a => b.recs.length - a.i) ⟨0, -1, Nat.zero_le _, rfl⟩ (WkG.of rfl rfl ⟨Le.refl _ _, Le.refl _ _, Le.refl _ _, trivial⟩ ⟨⟨_, rfl, LeO.refl _ _⟩, trivial⟩ ⟨rfl, rfl, rfl, trivial⟩ ⟨⟨by decide, renO_batO _ _⟩, trivial⟩) ?_
      rintro ⟨i, prev, hi, hc⟩
      dsimp only
      conv => arg 4; whnf
      refine ⟨fun h => ?_, fun h => ?_⟩
      · have hi' : i < b.recs.length := by rw [recs_length] at h; simp at h; omega
        obtain ⟨x, hx⟩ : ∃ x, b.recs[i]? = some x := ⟨_, List.getElem?_eq_getElem hi'⟩
        have hg := recs_get hx
        rw [recsE_drop hx] at hc
        conv => arg 4; whnf
        refine ⟨x.av, ⟨by omega, hg⟩, ?_⟩
        (conv => arg 4; whnf); repeat (refine ⟨rfl, ?_⟩; conv => arg 4; whnf)
        refine call0 (refRec (r := x) (b := b) (prev := prev)) (ClL.cons (Cl.rec x) (ClL.cons (Cl.bat b) (ClL.cons (Cl.int _ _) ClL.nil))) (Cl.int _ _) ?_
        (conv => arg 4; whnf); repeat (refine ⟨rfl, ?_⟩; conv => arg 4; whnf)
        refine ⟨fun h0 => ?_, fun h0 => ?_⟩
        · have h0 : recE x b.base b.last prev ≠ 0 := by simpa using h0
          rw [if_pos h0] at hc
          (conv => arg 4; whnf); repeat (refine ⟨rfl, ?_⟩; conv => arg 4; whnf)
          refine ⟨by decide, Le.of_eq ?_, trivial, (Cl.int _ _) _, trivial⟩
          refine congrArg _ ?_
          rw [chk_rec hb h2 (by rw [← hc]; exact h0)]
          exact hc
        · have h0 : recE x b.base b.last prev = 0 := by simpa using h0
          rw [if_neg (by simp [h0])] at hc
          (conv => arg 4; whnf); repeat (refine ⟨rfl, ?_⟩; conv => arg 4; whnf)
          refine ⟨x.av, ⟨by omega, hg⟩, ?_⟩
          (conv => arg 4; whnf); repeat (refine ⟨rfl, ?_⟩; conv => arg 4; whnf)
          exact ⟨⟨i + 1, x.off, hi', hc⟩, by show b.recs.length - (i + 1) < b.recs.length - i; omega, WkG.of rfl rfl ⟨Le.of_eq (succ_int (by omega)), Le.refl _ _, Le.refl _ _, trivial⟩ ⟨⟨_, rfl, LeO.refl _ _⟩, trivial⟩ ⟨rfl, rfl, rfl, trivial⟩ ⟨⟨by decide, renO_batO _ _⟩, trivial⟩⟩
      · have hi' : i = b.recs.length := by rw [recs_length] at h; simp at h; omega
        rw [hi', List.drop_length] at hc
        have hc : recsE b b.recs (-1) = 0 := hc.symm
        have hf := fine_of hb (by omega) hc
        conv => arg 4; whnf
        refine fin_exit ?_
        show holds _ _ _ _
        conv => arg 4; whnf
        refine call0 (refEncode hf) (ClL.cons (Cl.bat b) ClL.nil) (Cl.bs _) ?_
        (conv => arg 4; whnf); repeat (refine ⟨rfl, ?_⟩; conv => arg 4; whnf)
        refine ⟨fun h4 => ?_, fun h4 => ?_⟩
        · have h4 : 65536 < b.enc.length := by rw [u8s_length] at h4; simp at h4; omega
          (conv => arg 4; whnf); repeat (refine ⟨rfl, ?_⟩; conv => arg 4; whnf)
          refine ⟨by decide, Le.of_eq ?_, trivial, (Cl.int _ _) _, trivial⟩
          exact congrArg _ (chk_big hb h2 hc h4).symm
        · have h4 : ¬ 65536 < b.enc.length := by rw [u8s_length] at h4; simp at h4; omega
          (conv => arg 4; whnf); repeat (refine ⟨rfl, ?_⟩; conv => arg 4; whnf)
          refine ⟨by decide, Le.of_eq ?_, trivial, (Cl.int _ _) _, trivial⟩
          exact congrArg _ (chk_ok hb h2 hc h4).symm
end Go.Proofs.Ytlifbhcmihnkpaa

namespace Go.Proofs.Ytlifbhcmihnkpaa
set_option maxRecDepth 100000
set_option maxHeartbeats 80000000
open Go.Sym

theorem C3 {a b c : AV} (h1 : Cl a) (h2 : Cl b) (h3 : Cl c) : ClL [a, b, c] := ClL.cons h1 (ClL.cons h2 (ClL.cons h3 ClL.nil))

theorem batCheck {b : Bat} (hl : b.recs.length ≤ 1000000) : CallOK Try.prog 61 [b.av] [] 0 (Out (.int .i64 b.chk) [] 0) := by
  refine CallOK.fit (by decide) ?_
  refine callOK Try.call61 Try.func61 Try.ntmps61 rfl ?_
  conv => arg 4; whnf
  refine call0 within (C3 (Cl.int _ _) (Cl.int _ _) (Cl.int _ _)) (Cl.bool _) ?_
  (conv => arg 4; whnf); repeat (refine ⟨rfl, ?_⟩; conv => arg 4; whnf)
  refine ⟨fun h0 => ?_, fun h0 => ?_⟩
  rotate_left
  · have h0 := of_decide_eq_false h0
    (conv => arg 4; whnf); repeat (refine ⟨rfl, ?_⟩; conv => arg 4; whnf)
    refine ⟨by decide, Le.of_eq ?_, trivial, (Cl.int _ _) _, trivial⟩
    exact congrArg _ (chk_head (by unfold HeadBad; omega)).symm
  have h0 := of_decide_eq_true h0
  (conv => arg 4; whnf); repeat (refine ⟨rfl, ?_⟩; conv => arg 4; whnf)
  refine call0 within (C3 (Cl.int _ _) (Cl.int _ _) (Cl.int _ _)) (Cl.bool _) ?_
  (conv => arg 4; whnf); repeat (refine ⟨rfl, ?_⟩; conv => arg 4; whnf)
  refine ⟨fun h1 => ?_, fun h1 => ?_⟩
  rotate_left
  · have h1 := of_decide_eq_false h1
    (conv => arg 4; whnf); repeat (refine ⟨rfl, ?_⟩; conv => arg 4; whnf)
    refine ⟨by decide, Le.of_eq ?_, trivial, (Cl.int _ _) _, trivial⟩
    exact congrArg _ (chk_head (by unfold HeadBad; omega)).symm
  have h1 := of_decide_eq_true h1
  (conv => arg 4; whnf); repeat (refine ⟨rfl, ?_⟩; conv => arg 4; whnf)
  refine call0 within (C3 (Cl.int _ _) (Cl.int _ _) (Cl.int _ _)) (Cl.bool _) ?_
  (conv => arg 4; whnf); repeat (refine ⟨rfl, ?_⟩; conv => arg 4; whnf)
  refine ⟨fun h2 => ?_, fun h2 => ?_⟩
  rotate_left
  · have h2 := of_decide_eq_false h2
    (conv => arg 4; whnf); repeat (refine ⟨rfl, ?_⟩; conv => arg 4; whnf)
    refine ⟨by decide, Le.of_eq ?_, trivial, (Cl.int _ _) _, trivial⟩
    exact congrArg _ (chk_head (by unfold HeadBad; omega)).symm
  have h2 := of_decide_eq_true h2
  (conv => arg 4; whnf); repeat (refine ⟨rfl, ?_⟩; conv => arg 4; whnf)
  refine call0 within (C3 (Cl.int _ _) (Cl.int _ _) (Cl.int _ _)) (Cl.bool _) ?_
  (conv => arg 4; whnf); repeat (refine ⟨rfl, ?_⟩; conv => arg 4; whnf)
  refine ⟨fun h3 => ?_, fun h3 => ?_⟩
  rotate_left
  · have h3 := of_decide_eq_false h3
    (conv => arg 4; whnf); repeat (refine ⟨rfl, ?_⟩; conv => arg 4; whnf)
    refine ⟨by decide, Le.of_eq ?_, trivial, (Cl.int _ _) _, trivial⟩
    exact congrArg _ (chk_head (by unfold HeadBad; omega)).symm
  have h3 := of_decide_eq_true h3
  (conv => arg 4; whnf); repeat (refine ⟨rfl, ?_⟩; conv => arg 4; whnf)
  refine call0 within (C3 (Cl.int _ _) (Cl.int _ _) (Cl.int _ _)) (Cl.bool _) ?_
  (conv => arg 4; whnf); repeat (refine ⟨rfl, ?_⟩; conv => arg 4; whnf)
  refine ⟨fun h4 => ?_, fun h4 => ?_⟩
  · simp only [Bool.cond_true_left, Bool.cond_false_right, Bool.or_eq_true, Bool.and_eq_true, Bool.not_eq_true', decide_eq_true_eq, beq_iff_eq, bne_iff_ne, u8s_length, Bool.not_eq_true, gt_iff_lt, ge_iff_le] at h4
    simp only [decide_eq_false_iff_not] at h4
    (conv => arg 4; whnf); repeat (refine ⟨rfl, ?_⟩; conv => arg 4; whnf)
    refine ⟨by decide, Le.of_eq ?_, trivial, (Cl.int _ _) _, trivial⟩
    exact congrArg _ (chk_head (by unfold HeadBad; omega)).symm
  · rw [← Bool.not_eq_true] at h4; simp only [Bool.cond_true_left, Bool.cond_false_right, Bool.or_eq_true, Bool.and_eq_true, Bool.not_eq_true', decide_eq_true_eq, beq_iff_eq, bne_iff_ne, u8s_length, gt_iff_lt, ge_iff_le] at h4
    simp only [decide_eq_false_iff_not] at h4
    have hb : ¬ HeadBad b := by unfold HeadBad; omega
    (conv => arg 4; whnf); repeat (refine ⟨rfl, ?_⟩; conv => arg 4; whnf)
    refine ⟨fun h2 => ?_, fun h2 => ?_⟩
    · have h2 : 100 < b.recs.length := by rw [recs_length] at h2; simp at h2; omega
      (conv => arg 4; whnf); repeat (refine ⟨rfl, ?_⟩; conv => arg 4; whnf)
      refine ⟨by decide, Le.of_eq ?_, trivial, (Cl.int _ _) _, trivial⟩
      exact congrArg _ (chk_many hb h2).symm
    · have h2 : ¬ 100 < b.recs.length := by rw [recs_length] at h2; simp at h2; omega
      (conv => arg 4; whnf); repeat (refine ⟨rfl, ?_⟩; conv => arg 4; whnf)
      have cl : ∀ ρ, ren ρ (recsV b.recs) = recsV b.recs := Cl.sl (ClL.recs _)
      refine tri_loopG (ι := CkI b) (fun a => ⟨[(59, .int .i64 a.i), (58, .int .i64 b.recs.length), (57, recsV b.recs), (4, .int .i64 a.prev), (1, .ptr 0 0)], [(0, batO b)], 1, 77⟩) (fun a => b.recs.length - a.i) ⟨0, -1, Nat.zero_le _, rfl⟩ (WkG.of rfl rfl ⟨Le.refl _ _, Le.of_eq (congrArg (fun n : Nat => AV.int .i64 n) (recs_length _)), Le.refl _ _, Le.refl _ _, Le.refl _ _, trivial⟩ ⟨⟨_, rfl, LeO.refl _ _⟩, trivial⟩ ⟨rfl, rfl, cl _, rfl, rfl, trivial⟩ ⟨⟨by decide, renO_batO _ _⟩, trivial⟩) ?_
      rintro ⟨i, prev, hi, hc⟩
      dsimp only
      conv => arg 4; whnf
      refine ⟨fun h => ?_, fun h => ?_⟩
      · have hi' : i < b.recs.length := by simp at h; omega
        obtain ⟨x, hx⟩ : ∃ x, b.recs[i]? = some x := ⟨_, List.getElem?_eq_getElem hi'⟩
        have hg := recs_get hx
        rw [recsE_drop hx] at hc
        conv => arg 4; whnf
        refine ⟨x.av, ⟨by omega, hg⟩, ?_⟩
        (conv => arg 4; whnf); repeat (refine ⟨rfl, ?_⟩; conv => arg 4; whnf)
        refine call0 (batRec (r := x) (b := b) (prev := prev)) (C3 (Cl.rec x) (Cl.bat b) (Cl.int _ _)) (Cl.int _ _) ?_
        (conv => arg 4; whnf); repeat (refine ⟨rfl, ?_⟩; conv => arg 4; whnf)
        refine ⟨fun h0 => ?_, fun h0 => ?_⟩
        · have h0 : recE x b.base b.last prev ≠ 0 := by simpa using h0
          rw [if_pos h0] at hc
          (conv => arg 4; whnf); repeat (refine ⟨rfl, ?_⟩; conv => arg 4; whnf)
          refine ⟨by decide, Le.of_eq ?_, trivial, (Cl.int _ _) _, trivial⟩
          refine congrArg _ ?_
          rw [chk_rec hb h2 (by rw [← hc]; exact h0)]
          exact hc
        · have h0 : recE x b.base b.last prev = 0 := by simpa using h0
          rw [if_neg (by simp [h0])] at hc
          (conv => arg 4; whnf); repeat (refine ⟨rfl, ?_⟩; conv => arg 4; whnf)
          exact ⟨⟨i + 1, x.off, hi', hc⟩, by show b.recs.length - (i + 1) < b.recs.length - i; omega, WkG.of rfl rfl ⟨Le.of_eq (succ_int (by omega)), Le.refl _ _, Le.refl _ _, Le.refl _ _, Le.refl _ _, trivial⟩ ⟨⟨_, rfl, LeO.refl _ _⟩, trivial⟩ ⟨rfl, rfl, cl _, rfl, rfl, trivial⟩ ⟨⟨by decide, renO_batO _ _⟩, trivial⟩⟩
      · have hi' : i = b.recs.length := by simp at h; omega
        rw [hi', List.drop_length] at hc
        have hc : recsE b b.recs (-1) = 0 := hc.symm
        have hf := fine_of hb (by omega) hc
        conv => arg 4; whnf
        refine fin_exit ?_
        show holds _ _ _ _
        conv => arg 4; whnf
        refine call0 (batWritten hf) (ClL.cons (Cl.bat b) ClL.nil) (Cl.bs _) ?_
        (conv => arg 4; whnf); repeat (refine ⟨rfl, ?_⟩; conv => arg 4; whnf)
        refine ⟨fun h4 => ?_, fun h4 => ?_⟩
        · have h4 : 65536 < b.enc.length := by rw [u8s_length] at h4; simp at h4; omega
          (conv => arg 4; whnf); repeat (refine ⟨rfl, ?_⟩; conv => arg 4; whnf)
          refine ⟨by decide, Le.of_eq ?_, trivial, (Cl.int _ _) _, trivial⟩
          exact congrArg _ (chk_big hb h2 hc h4).symm
        · have h4 : ¬ 65536 < b.enc.length := by rw [u8s_length] at h4; simp at h4; omega
          (conv => arg 4; whnf); repeat (refine ⟨rfl, ?_⟩; conv => arg 4; whnf)
          refine ⟨by decide, Le.of_eq ?_, trivial, (Cl.int _ _) _, trivial⟩
          exact congrArg _ (chk_ok hb h2 hc h4).symm
end Go.Proofs.Ytlifbhcmihnkpaa

namespace Go.Proofs.Ytlifbhcmihnkpaa
set_option maxRecDepth 100000
set_option maxHeartbeats 80000000
open Go.Sym

noncomputable def Bat.out (b : Bat) : List UInt8 := if b.chk = 0 then b.enc else []
noncomputable def encA (b : Bat) : AV := .tup [bs b.out, .int .i64 b.chk]
theorem Cl.encA (b : Bat) : Cl (encA b) := Cl.tup (ClL.cons (Cl.bs _) (ClL.cons (Cl.int _ _) ClL.nil))
theorem out_yes {b : Bat} (h : b.chk = 0) : b.out = b.enc := by rw [Bat.out, if_pos h]
theorem out_no {b : Bat} (h : b.chk ≠ 0) : b.out = [] := by rw [Bat.out, if_neg h]
theorem encA_yes {b : Bat} (h : b.chk = 0) : Go.Proofs.Ytlifbhcmihnkpaa.encA b = .tup [bs b.enc, .int .i64 0] := by unfold Go.Proofs.Ytlifbhcmihnkpaa.encA; rw [out_yes h, h]
theorem encA_no {b : Bat} (h : b.chk ≠ 0) : Go.Proofs.Ytlifbhcmihnkpaa.encA b = .tup [.sl .none 0 [], .int .i64 b.chk] := by unfold Go.Proofs.Ytlifbhcmihnkpaa.encA; rw [out_no h]; rfl

theorem refEnc {b : Bat} (hl : b.recs.length ≤ 1000000) : CallOK Try.prog 67 [b.av] [] 0 (Out (encA b) [] 0) := by
  refine CallOK.fit (by decide) ?_
  refine callOK Try.call67 Try.func67 Try.ntmps67 rfl ?_
  conv => arg 4; whnf
  refine call0 (refCheck hl) (ClL.cons (Cl.bat b) ClL.nil) (Cl.int _ _) ?_
  (conv => arg 4; whnf); repeat (refine ⟨rfl, ?_⟩; conv => arg 4; whnf)
  refine ⟨fun h => ?_, fun h => ?_⟩
  · have h : b.chk ≠ 0 := by simpa using h
    (conv => arg 4; whnf); repeat (refine ⟨rfl, ?_⟩; conv => arg 4; whnf)
    refine ⟨by decide, ?_, trivial, Cl.encA b _, trivial⟩
    rw [encA_no h]
    exact Le.tup (LeL.cons Le.nils (LeL.cons (Le.refl _ _) (LeL.nil _)))
  · have h : b.chk = 0 := by simpa using h
    (conv => arg 4; whnf); repeat (refine ⟨rfl, ?_⟩; conv => arg 4; whnf)
    refine call0 (refEncode (chk_fine h).1) (ClL.cons (Cl.bat b) ClL.nil) (Cl.bs _) ?_
    (conv => arg 4; whnf); repeat (refine ⟨rfl, ?_⟩; conv => arg 4; whnf)
    refine ⟨by decide, ?_, trivial, Cl.encA b _, trivial⟩
    rw [encA_yes h]
    exact Le.tup (LeL.cons Le.none (LeL.cons (Le.refl _ _) (LeL.nil _)))

theorem batEnc {b : Bat} (hl : b.recs.length ≤ 1000000) : CallOK Try.prog 65 [b.av] [] 0 (Out (encA b) [] 0) := by
  refine CallOK.fit (by decide) ?_
  refine callOK Try.call65 Try.func65 Try.ntmps65 rfl ?_
  conv => arg 4; whnf
  refine call0 (batCheck hl) (ClL.cons (Cl.bat b) ClL.nil) (Cl.int _ _) ?_
  (conv => arg 4; whnf); repeat (refine ⟨rfl, ?_⟩; conv => arg 4; whnf)
  refine ⟨fun h => ?_, fun h => ?_⟩
  · have h : b.chk ≠ 0 := by simpa using h
    (conv => arg 4; whnf); repeat (refine ⟨rfl, ?_⟩; conv => arg 4; whnf)
    refine ⟨by decide, ?_, trivial, Cl.encA b _, trivial⟩
    rw [encA_no h]
    exact Le.tup (LeL.cons Le.nils (LeL.cons (Le.refl _ _) (LeL.nil _)))
  · have h : b.chk = 0 := by simpa using h
    (conv => arg 4; whnf); repeat (refine ⟨rfl, ?_⟩; conv => arg 4; whnf)
    refine call0 (batWritten (chk_fine h).1) (ClL.cons (Cl.bat b) ClL.nil) (Cl.bs _) ?_
    (conv => arg 4; whnf); repeat (refine ⟨rfl, ?_⟩; conv => arg 4; whnf)
    refine ⟨by decide, ?_, trivial, Cl.encA b _, trivial⟩
    rw [encA_yes h]
    exact Le.tup (LeL.cons Le.none (LeL.cons (Le.refl _ _) (LeL.nil _)))

theorem refSize {b : Bat} (hl : b.recs.length ≤ 1000000) : CallOK Try.prog 74 [b.av] [] 0 (Out (.int .i64 (b.out.length : Nat)) [] 0) := by
  refine CallOK.fit (by decide) ?_
  refine callOK Try.call74 Try.func74 Try.ntmps74 rfl ?_
  conv => arg 4; whnf
  refine call0 (refEnc hl) (ClL.cons (Cl.bat b) ClL.nil) (Cl.encA b) ?_
  (conv => arg 4; whnf); repeat (refine ⟨rfl, ?_⟩; conv => arg 4; whnf)
  refine ⟨by decide, Le.of_eq ?_, trivial, (Cl.int _ _) _, trivial⟩
  exact congrArg (fun n : Nat => AV.int .i64 n) (u8s_length _)

theorem batSize {b : Bat} (hl : b.recs.length ≤ 1000000) : CallOK Try.prog 62 [b.av] [] 0 (Out (.int .i64 (b.out.length : Nat)) [] 0) := by
  refine CallOK.fit (by decide) ?_
  refine callOK Try.call62 Try.func62 Try.ntmps62 rfl ?_
  conv => arg 4; whnf
  refine call0 (batEnc hl) (ClL.cons (Cl.bat b) ClL.nil) (Cl.encA b) ?_
  (conv => arg 4; whnf); repeat (refine ⟨rfl, ?_⟩; conv => arg 4; whnf)
  refine ⟨by decide, Le.of_eq ?_, trivial, (Cl.int _ _) _, trivial⟩
  exact congrArg (fun n : Nat => AV.int .i64 n) (u8s_length _)
end Go.Proofs.Ytlifbhcmihnkpaa

namespace Go.Proofs.Ytlifbhcmihnkpaa
set_option maxRecDepth 100000
set_option maxHeartbeats 80000000
open Go.Sym

theorem bytesEqual {a b : List UInt8} : CallOK Try.prog 128 [bs a, bs b] [] 0 (Out (.bool (a == b)) [] 0) := by
  refine callOK Try.call128 Try.func128 Try.ntmps128 rfl ?_
  conv => arg 4; whnf
  refine ⟨a, rfl, ?_⟩
  conv => arg 4; whnf
  refine ⟨b, rfl, ?_⟩
  conv => arg 4; whnf
  exact ⟨rfl, rfl, rfl⟩

theorem rec_eq {a b : Rec} : decide (a = b) = (bif bif bif bif bif a.off == b.off then a.time == b.time else false then a.hk == b.hk else false then a.hv == b.hv else false then a.key == b.key else false then a.val == b.val else false) := by
  cases a; cases b
  simp only [Rec.mk.injEq]
  rw [Bool.eq_iff_iff]
  simp only [decide_eq_true_eq, Bool.cond_false_right, Bool.and_eq_true, beq_iff_eq]
  constructor
  · rintro ⟨h1, h2, h3, h4, h5, h6⟩; exact ⟨⟨⟨⟨⟨h1, h2⟩, h3⟩, h5⟩, h4⟩, h6⟩
  · rintro ⟨⟨⟨⟨⟨h1, h2⟩, h3⟩, h5⟩, h4⟩, h6⟩; exact ⟨h1, h2, h3, h4, h5, h6⟩

theorem batSameRec {a b : Rec} : CallOK Try.prog 115 [a.av, b.av] [] 0 (Out (.bool (decide (a = b))) [] 0) := by
  refine CallOK.fit (by decide) ?_
  refine callOK Try.call115 Try.func115 Try.ntmps115 rfl ?_
  rw [rec_eq]
  conv => arg 4; whnf
  refine ⟨fun h => ?_, fun h => ?_⟩
  · rw [h]
    (conv => arg 4; whnf); repeat (refine ⟨rfl, ?_⟩; conv => arg 4; whnf)
    refine call0 bytesEqual (ClL.cons (Cl.bs _) (ClL.cons (Cl.bs _) ClL.nil)) (Cl.bool _) ?_
    (conv => arg 4; whnf); repeat (refine ⟨rfl, ?_⟩; conv => arg 4; whnf)
    refine ⟨fun h2 => ?_, fun h2 => ?_⟩
    · rw [h2]
      (conv => arg 4; whnf); repeat (refine ⟨rfl, ?_⟩; conv => arg 4; whnf)
      refine call0 bytesEqual (ClL.cons (Cl.bs _) (ClL.cons (Cl.bs _) ClL.nil)) (Cl.bool _) ?_
      (conv => arg 4; whnf); repeat (refine ⟨rfl, ?_⟩; conv => arg 4; whnf)
      refine ⟨by decide, Le.of_eq (congrArg AV.bool ?_), trivial, (Cl.bool _) _, trivial⟩
      rfl
    · rw [h2]
      (conv => arg 4; whnf); repeat (refine ⟨rfl, ?_⟩; conv => arg 4; whnf)
      refine ⟨by decide, Le.blOf ?_, trivial, (Cl.bool _) _, trivial⟩
      rfl
  · rw [h]
    (conv => arg 4; whnf); repeat (refine ⟨rfl, ?_⟩; conv => arg 4; whnf)
    refine ⟨by decide, Le.blOf ?_, trivial, (Cl.bool _) _, trivial⟩
    rfl
theorem refSameRec {a b : Rec} : CallOK Try.prog 45 [a.av, b.av] [] 0 (Out (.bool (decide (a = b))) [] 0) := by
  refine CallOK.fit (by decide) ?_
  refine callOK Try.call45 Try.func45 Try.ntmps45 rfl ?_
  rw [rec_eq]
  conv => arg 4; whnf
  refine ⟨a.key, ctxP_of rfl, ?_⟩
  conv => arg 4; whnf
  refine ⟨b.key, ctxP_of rfl, ?_⟩
  conv => arg 4; whnf
  refine ⟨a.val, ctxP_of rfl, ?_⟩
  conv => arg 4; whnf
  refine ⟨b.val, ctxP_of rfl, ?_⟩
  conv => arg 4; whnf
  refine ⟨by decide, Le.of_eq (congrArg AV.bool ?_), trivial, (Cl.bool _) _, trivial⟩
  rfl

/-- The two begin alike. -/
structure EqI (a b : List Rec) where
  i : Nat
  hi : i ≤ a.length
  h : a.take i = b.take i

theorem eq_step {a b : List Rec} {i : Nat} {x y : Rec} (hx : a[i]? = some x) (hy : b[i]? = some y) (h : a.take i = b.take i) (e : x = y) : a.take (i + 1) = b.take (i + 1) := by
  rw [List.take_add_one, List.take_add_one, hx, hy, h, e]
theorem ne_step {a b : List Rec} {i : Nat} {x y : Rec} (hx : a[i]? = some x) (hy : b[i]? = some y) (e : x ≠ y) : a ≠ b := by
  intro h; subst h; rw [hx] at hy; cases hy; exact e rfl

theorem equalFunc {a b : List Rec} (ha : a.length ≤ 1000000) : CallOK Try.prog 114 [recsV a, recsV b, .fn 115 []] [] 0 (Out (.bool (decide (a = b))) [] 0) := by
  refine CallOK.fit (by decide) ?_
  refine callOK Try.call114 Try.func114 Try.ntmps114 rfl ?_
  conv => arg 4; whnf
  refine ⟨fun h => ?_, fun h => ?_⟩
  · have h : a.length ≠ b.length := by rw [recs_length, recs_length] at h; simp at h; omega
    (conv => arg 4; whnf); repeat (refine ⟨rfl, ?_⟩; conv => arg 4; whnf)
    refine ⟨by decide, Le.blOf ?_, trivial, (Cl.bool _) _, trivial⟩
    exact (decide_eq_false (fun e => h (by rw [e]))).symm
  · have h : a.length = b.length := by rw [recs_length, recs_length] at h; simp at h; omega
    have cla : ∀ ρ, ren ρ (recsV a) = recsV a := Cl.sl (ClL.recs _)
    have clb : ∀ ρ, ren ρ (recsV b) = recsV b := Cl.sl (ClL.recs _)
    (conv => arg 4; whnf); repeat (refine ⟨rfl, ?_⟩; conv => arg 4; whnf)
    refine tri_loopG (ι := EqI a b) (fun x => ⟨[(17, .int .i64 x.i), (16, .int .i64 a.length), (15, recsV a), (1, recsV b), (2, .fn 115 [])], [], 0, 32⟩) (fun x => a.length - x.i) ⟨0, Nat.zero_le _, rfl⟩ (WkG.of rfl rfl ⟨Le.refl _ _, Le.of_eq (congrArg (fun n : Nat => AV.int .i64 n) (recs_length _)), Le.refl _ _, Le.refl _ _, Le.refl _ _, trivial⟩ trivial ⟨rfl, rfl, cla _, clb _, rfl, trivial⟩ trivial) ?_
    rintro ⟨i, hi, ht⟩
    dsimp only
    conv => arg 4; whnf
    refine ⟨fun h1 => ?_, fun h1 => ?_⟩
    · have hi' : i < a.length := by simp at h1; omega
      obtain ⟨x, hx⟩ : ∃ x, a[i]? = some x := ⟨_, List.getElem?_eq_getElem hi'⟩
      obtain ⟨y, hy⟩ : ∃ y, b[i]? = some y := ⟨_, List.getElem?_eq_getElem (by omega)⟩
      conv => arg 4; whnf
      refine ⟨x.av, ⟨by omega, recs_get hx⟩, ?_⟩
      (conv => arg 4; whnf); repeat (refine ⟨rfl, ?_⟩; conv => arg 4; whnf)
      refine ⟨y.av, ⟨by omega, recs_get hy⟩, ?_⟩
      (conv => arg 4; whnf); repeat (refine ⟨rfl, ?_⟩; conv => arg 4; whnf)
      refine call0 (batSameRec (a := x) (b := y)) (ClL.cons (Cl.rec x) (ClL.cons (Cl.rec y) ClL.nil)) (Cl.bool _) ?_
      (conv => arg 4; whnf); repeat (refine ⟨rfl, ?_⟩; conv => arg 4; whnf)
      refine ⟨fun h2 => ?_, fun h2 => ?_⟩
      · have h2 : x ≠ y := by simpa using h2
        (conv => arg 4; whnf); repeat (refine ⟨rfl, ?_⟩; conv => arg 4; whnf)
        refine ⟨by decide, Le.blOf ?_, trivial, (Cl.bool _) _, trivial⟩
        exact (decide_eq_false (ne_step hx hy h2)).symm
      · have h2 : x = y := by simpa using h2
        (conv => arg 4; whnf); repeat (refine ⟨rfl, ?_⟩; conv => arg 4; whnf)
        exact ⟨⟨i + 1, hi', eq_step hx hy ht h2⟩, by show a.length - (i + 1) < a.length - i; omega, WkG.of rfl rfl ⟨Le.of_eq (succ_int (by omega)), Le.refl _ _, Le.refl _ _, Le.refl _ _, Le.refl _ _, trivial⟩ trivial ⟨rfl, rfl, cla _, clb _, rfl, trivial⟩ trivial⟩
    · have hi' : i = a.length := by simp at h1; omega
      have he : a = b := by rw [hi', List.take_length] at ht; rw [ht, h, List.take_length]
      conv => arg 4; whnf
      refine fin_exit ?_
      show holds _ _ _ _
      conv => arg 4; whnf
      refine ⟨by decide, Le.blOf ?_, trivial, (Cl.bool _) _, trivial⟩
      exact (decide_eq_true he).symm
theorem refSameRecs {a b : List Rec} (ha : a.length ≤ 1000000) : CallOK Try.prog 108 [recsV a, recsV b] [] 0 (Out (.bool (decide (a = b))) [] 0) := by
  refine CallOK.fit (by decide) ?_
  refine callOK Try.call108 Try.func108 Try.ntmps108 rfl ?_
  conv => arg 4; whnf
  refine ⟨fun h => ?_, fun h => ?_⟩
  · have h : a.length ≠ b.length := by rw [recs_length, recs_length] at h; simp at h; omega
    (conv => arg 4; whnf); repeat (refine ⟨rfl, ?_⟩; conv => arg 4; whnf)
    refine ⟨by decide, Le.blOf ?_, trivial, (Cl.bool _) _, trivial⟩
    exact (decide_eq_false (fun e => h (by rw [e]))).symm
  · have h : a.length = b.length := by rw [recs_length, recs_length] at h; simp at h; omega
    have cla : ∀ ρ, ren ρ (recsV a) = recsV a := Cl.sl (ClL.recs _)
    have clb : ∀ ρ, ren ρ (recsV b) = recsV b := Cl.sl (ClL.recs _)
    (conv => arg 4; whnf); repeat (refine ⟨rfl, ?_⟩; conv => arg 4; whnf)
    refine tri_loopG (ι := EqI a b) (fun x => ⟨[(5, .int .i64 x.i), (0, recsV a), (1, recsV b)], [], 0, 27⟩) (fun x => a.length - x.i) ⟨0, Nat.zero_le _, rfl⟩ (WkG.of rfl rfl ⟨Le.refl _ _, Le.refl _ _, Le.refl _ _, trivial⟩ trivial ⟨rfl, cla _, clb _, trivial⟩ trivial) ?_
    rintro ⟨i, hi, ht⟩
    dsimp only
    conv => arg 4; whnf
    refine ⟨fun h1 => ?_, fun h1 => ?_⟩
    · have hi' : i < a.length := by rw [recs_length] at h1; simp at h1; omega
      obtain ⟨x, hx⟩ : ∃ x, a[i]? = some x := ⟨_, List.getElem?_eq_getElem hi'⟩
      obtain ⟨y, hy⟩ : ∃ y, b[i]? = some y := ⟨_, List.getElem?_eq_getElem (by omega)⟩
      conv => arg 4; whnf
      refine ⟨x.av, ⟨by omega, recs_get hx⟩, ?_⟩
      (conv => arg 4; whnf); repeat (refine ⟨rfl, ?_⟩; conv => arg 4; whnf)
      refine ⟨y.av, ⟨by omega, recs_get hy⟩, ?_⟩
      (conv => arg 4; whnf); repeat (refine ⟨rfl, ?_⟩; conv => arg 4; whnf)
      refine call0 (refSameRec (a := x) (b := y)) (ClL.cons (Cl.rec x) (ClL.cons (Cl.rec y) ClL.nil)) (Cl.bool _) ?_
      (conv => arg 4; whnf); repeat (refine ⟨rfl, ?_⟩; conv => arg 4; whnf)
      refine ⟨fun h2 => ?_, fun h2 => ?_⟩
      · have h2 : x ≠ y := by simpa using h2
        (conv => arg 4; whnf); repeat (refine ⟨rfl, ?_⟩; conv => arg 4; whnf)
        refine ⟨by decide, Le.blOf ?_, trivial, (Cl.bool _) _, trivial⟩
        exact (decide_eq_false (ne_step hx hy h2)).symm
      · have h2 : x = y := by simpa using h2
        (conv => arg 4; whnf); repeat (refine ⟨rfl, ?_⟩; conv => arg 4; whnf)
        exact ⟨⟨i + 1, hi', eq_step hx hy ht h2⟩, by show a.length - (i + 1) < a.length - i; omega, WkG.of rfl rfl ⟨Le.of_eq (succ_int (by omega)), Le.refl _ _, Le.refl _ _, trivial⟩ trivial ⟨rfl, cla _, clb _, trivial⟩ trivial⟩
    · have hi' : i = a.length := by rw [recs_length] at h1; simp at h1; omega
      have he : a = b := by rw [hi', List.take_length] at ht; rw [ht, h, List.take_length]
      conv => arg 4; whnf
      refine fin_exit ?_
      show holds _ _ _ _
      conv => arg 4; whnf
      refine ⟨by decide, Le.blOf ?_, trivial, (Cl.bool _) _, trivial⟩
      exact (decide_eq_true he).symm
end Go.Proofs.Ytlifbhcmihnkpaa

namespace Go.Proofs.Ytlifbhcmihnkpaa.Cm
set_option maxRecDepth 100000
set_option maxHeartbeats 80000000
open Go.Sym

structure Ent where
  g : List UInt8
  t : List UInt8
  p : Int
  o : Int
deriving DecidableEq
def Ent.av (e : Ent) : AV := .agg [.str e.g, .str e.t, .int .i64 e.p, .int .i64 e.o]
theorem Cl.ent (e : Ent) : Cl e.av := Cl.agg (ClL.cons (Cl.str _) (ClL.cons (Cl.str _) (ClL.cons (Cl.int _ _) (ClL.cons (Cl.int _ _) ClL.nil))))

def okC (c : UInt8) : Bool := !((decide (c.toNat < 97) || decide (122 < c.toNat)) && (decide (c.toNat < 48) || decide (57 < c.toNat)))
/-- May a text be a name? -/
def nm (s : List UInt8) : Bool := s.all okC && (decide (1 ≤ s.length) && decide (s.length ≤ 20))
def place (e : Ent) : Bool := nm e.g && (nm e.t && decide (0 ≤ e.p ∧ e.p ≤ 999))
def mayE (e : Ent) : Bool := place e && decide (0 ≤ e.o ∧ e.o ≤ 4611686018427387904)
def mayG (g : List UInt8) (n : Int) : Bool := nm g && decide (0 ≤ n ∧ n ≤ 1099511627776)
def mayT (now : Int) : Bool := decide (0 ≤ now ∧ now ≤ 1125899906842624)

def keyO (e : Ent) : List UInt8 := lenB [111] ++ lenB e.g ++ lenB e.t ++ put e.p
def keyG (g : List UInt8) : List UInt8 := lenB [103] ++ lenB g
def Rec0 : Rec := ⟨0, 0, false, [], false, []⟩
def recR (k : List UInt8) (v now : Int) : Rec := ⟨0, now, true, k, true, put v⟩

noncomputable def rrR (b : Bool) (r : Rec) : Rec := if b then r else Rec0
noncomputable def rrE (b : Bool) : Int := if b then 0 else 1
/-- A record, or none. -/
noncomputable def rr (b : Bool) (r : Rec) : AV := .tup [(rrR b r).av, .int .i64 (rrE b)]
theorem Cl.rr (b : Bool) (r : Rec) : Cl (rr b r) := Cl.tup (ClL.cons (Cl.rec _) (ClL.cons (Cl.int _ _) ClL.nil))
theorem rr_yes (r : Rec) : rr true r = .tup [r.av, .int .i64 0] := rfl
theorem rr_no (r : Rec) : rr false r = .tup [Rec0.av, .int .i64 1] := rfl

theorem nm_len {s : List UInt8} (h : nm s = true) : 1 ≤ s.length ∧ s.length ≤ 20 := by
  simp only [nm, Bool.and_eq_true, decide_eq_true_eq] at h
  omega
end Go.Proofs.Ytlifbhcmihnkpaa.Cm

namespace Go.Proofs.Ytlifbhcmihnkpaa.Cm
set_option maxRecDepth 100000
set_option maxHeartbeats 80000000
open Go.Sym

theorem nm_no {s : List UInt8} {i : Nat} {c : UInt8} (hc : s[i]? = some c) (h : okC c = false) : nm s = false := by
  unfold nm
  have : s.all okC = false := by
    rw [List.all_eq_false]
    exact ⟨c, List.mem_of_getElem? hc, by simp [h]⟩
  rw [this]; rfl

structure NmI (s : List UInt8) where
  i : Nat
  hi : i ≤ s.length
  h : (s.take i).all okC = true

theorem cmName {s : List UInt8} (hl : s.length ≤ 1000000) : CallOK Try.prog 125 [.str s] [] 0 (Out (.bool (nm s)) [] 0) := by
  refine CallOK.fit (by decide) ?_
  refine callOK Try.call125 Try.func125 Try.ntmps125 rfl ?_
  conv => arg 4; whnf
  refine tri_loopG (ι := NmI s) (fun a => ⟨[(8, .int .i64 a.i), (7, .int .i64 (u8s s).length), (6, bs s), (0, .str s)], [], 0, 35⟩) (fun a => s.length - a.i) ⟨0, Nat.zero_le _, rfl⟩ (WkG.of rfl rfl ⟨Le.refl _ _, Le.refl _ _, Le.refl _ _, Le.refl _ _, trivial⟩ trivial ⟨rfl, rfl, Cl.bs _ _, rfl, trivial⟩ trivial) ?_
  rintro ⟨i, hi, ha⟩
  dsimp only
  conv => arg 4; whnf
  refine ⟨fun h => ?_, fun h => ?_⟩
  · have h : i < s.length := by first | (rw [u8s_length] at h; simp at h; omega) | (simp at h; omega)
    obtain ⟨c, hc⟩ : ∃ c, s[i]? = some c := ⟨_, List.getElem?_eq_getElem h⟩
    have htk : (s.take (i + 1)).all okC = okC c := by
      rw [List.take_add_one, hc, List.all_append, ha]; simp
    conv => arg 4; whnf
    refine ⟨u8 c, ⟨by omega, by simp [u8s, hc]⟩, ?_⟩
    (conv => arg 4; whnf); repeat (refine ⟨rfl, ?_⟩; conv => arg 4; whnf)
    refine ⟨fun hb => ?_, fun hb => ?_⟩
    · have hno : okC c = false := by
        unfold okC
        simp only [Bool.cond_true_left, Bool.cond_false_right, Bool.or_eq_true, Bool.and_eq_true, Bool.not_eq_true', decide_eq_true_eq, beq_iff_eq, bne_iff_ne, u8s_length, Bool.not_eq_true, gt_iff_lt, ge_iff_le] at hb
        simp
        omega
      have hnm : nm s = false := nm_no hc hno
      (conv => arg 4; whnf); repeat (refine ⟨rfl, ?_⟩; conv => arg 4; whnf)
      refine fin_ret ?_
      show holds _ _ _ _
      conv => arg 4; whnf
      rw [hnm]
      exact ⟨by decide, by (repeat' (first | with_reducible exact Le.refl _ _ | exact Le.bl | exact Le.lb | exact Le.nils | exact Le.nilsFull | exact Le.none | exact LeL.nil _ | refine LeL.cons ?_ ?_ | refine Le.tup ?_ | refine Le.agg ?_ | exact Le.refl _ _ | exact LeL.refl _ _)), trivial, (by (repeat' (first | with_reducible assumption | exact ClL.nil | exact Cl.int _ _ | exact Cl.bool _ | exact Cl.bl _ | exact Cl.bs _ | exact Cl.str _ | exact Cl.nils | exact Cl.nilp | exact Cl.rec _ | exact Cl.bat _ | exact Cl.recsV _ | exact Cl.strsV _ | exact Cl.intsV _ | exact Cl.req _ | exact Cl.rsp _ | exact Cl.reqA _ | exact Cl.rspA _ | exact Cl.batsV _ | exact Cl.prsV _ | exact Cl.atsV _ | exact Cl.entA _ _ | exact Cl.ent _ | exact Cl.rr _ _ | exact Cl.foundA _ | exact Cl.getB _ | exact Cl.encA _ | exact Cl.firstA _ | refine ClL.cons ?_ ?_ | refine Cl.tup ?_ | refine Cl.agg ?_ | exact ClO.RO _ _)) : Cl _) _, trivial⟩
    · have hyes : okC c = true := by
        unfold okC
        rw [← Bool.not_eq_true] at hb; simp only [Bool.cond_true_left, Bool.cond_false_right, Bool.or_eq_true, Bool.and_eq_true, Bool.not_eq_true', decide_eq_true_eq, beq_iff_eq, bne_iff_ne, u8s_length, gt_iff_lt, ge_iff_le] at hb
        simp
        omega
      (conv => arg 4; whnf); repeat (refine ⟨rfl, ?_⟩; conv => arg 4; whnf)
      exact ⟨⟨i + 1, by omega, by rw [htk, hyes]⟩, by show s.length - (i + 1) < s.length - i; omega, WkG.of rfl rfl ⟨Le.of_eq (succ_int (by omega)), Le.refl _ _, Le.refl _ _, Le.refl _ _, trivial⟩ trivial ⟨rfl, rfl, Cl.bs _ _, rfl, trivial⟩ trivial⟩
  · have h : i = s.length := by first | (rw [u8s_length] at h; simp at h; omega) | (simp at h; omega)
    rw [h, List.take_length] at ha
    conv => arg 4; whnf
    refine fin_exit ?_
    show holds _ _ _ _
    conv => arg 4; whnf
    have hnm : (bif decide ((s.length : Int) ≥ 1) then decide ((s.length : Int) ≤ 20) else false) = nm s := by
      unfold nm
      rw [ha, Bool.eq_iff_iff]
      simp
      omega
    rw [hnm]
    exact ⟨by decide, by (repeat' (first | with_reducible exact Le.refl _ _ | exact Le.bl | exact Le.lb | exact Le.nils | exact Le.nilsFull | exact Le.none | exact LeL.nil _ | refine LeL.cons ?_ ?_ | refine Le.tup ?_ | refine Le.agg ?_ | exact Le.refl _ _ | exact LeL.refl _ _)), trivial, (by (repeat' (first | with_reducible assumption | exact ClL.nil | exact Cl.int _ _ | exact Cl.bool _ | exact Cl.bl _ | exact Cl.bs _ | exact Cl.str _ | exact Cl.nils | exact Cl.nilp | exact Cl.rec _ | exact Cl.bat _ | exact Cl.recsV _ | exact Cl.strsV _ | exact Cl.intsV _ | exact Cl.req _ | exact Cl.rsp _ | exact Cl.reqA _ | exact Cl.rspA _ | exact Cl.batsV _ | exact Cl.prsV _ | exact Cl.atsV _ | exact Cl.entA _ _ | exact Cl.ent _ | exact Cl.rr _ _ | exact Cl.foundA _ | exact Cl.getB _ | exact Cl.encA _ | exact Cl.firstA _ | refine ClL.cons ?_ ?_ | refine Cl.tup ?_ | refine Cl.agg ?_ | exact ClO.RO _ _)) : Cl _) _, trivial⟩
theorem refTopic {s : List UInt8} (hl : s.length ≤ 1000000) : CallOK Try.prog 52 [.str s] [] 0 (Out (.bool (nm s)) [] 0) := by
  refine CallOK.fit (by decide) ?_
  refine callOK Try.call52 Try.func52 Try.ntmps52 rfl ?_
  conv => arg 4; whnf
  refine tri_loopG (ι := NmI s) (fun a => ⟨[(3, .int .i64 a.i), (0, .str s)], [], 0, 40⟩) (fun a => s.length - a.i) ⟨0, Nat.zero_le _, rfl⟩ (WkG.of rfl rfl ⟨Le.refl _ _, Le.refl _ _, trivial⟩ trivial ⟨rfl, rfl, trivial⟩ trivial) ?_
  rintro ⟨i, hi, ha⟩
  dsimp only
  conv => arg 4; whnf
  refine ⟨fun h => ?_, fun h => ?_⟩
  · have h : i < s.length := by first | (rw [u8s_length] at h; simp at h; omega) | (simp at h; omega)
    obtain ⟨c, hc⟩ : ∃ c, s[i]? = some c := ⟨_, List.getElem?_eq_getElem h⟩
    have htk : (s.take (i + 1)).all okC = okC c := by
      rw [List.take_add_one, hc, List.all_append, ha]; simp
    conv => arg 4; whnf
    refine ⟨u8 c, ⟨by omega, by simp [u8s, hc]⟩, ?_⟩
    (conv => arg 4; whnf); repeat (refine ⟨rfl, ?_⟩; conv => arg 4; whnf)
    refine ⟨u8 c, ctxP_of ⟨by omega, by simp [u8s, hc]⟩, ?_⟩
    (conv => arg 4; whnf); repeat (refine ⟨rfl, ?_⟩; conv => arg 4; whnf)
    refine ⟨u8 c, ctxP_of ⟨by omega, by simp [u8s, hc]⟩, ?_⟩
    (conv => arg 4; whnf); repeat (refine ⟨rfl, ?_⟩; conv => arg 4; whnf)
    refine ⟨u8 c, ctxP_of ⟨by omega, by simp [u8s, hc]⟩, ?_⟩
    (conv => arg 4; whnf); repeat (refine ⟨rfl, ?_⟩; conv => arg 4; whnf)
    refine ⟨fun hb => ?_, fun hb => ?_⟩
    · have hno : okC c = false := by
        unfold okC
        simp only [Bool.cond_true_left, Bool.cond_false_right, Bool.or_eq_true, Bool.and_eq_true, Bool.not_eq_true', decide_eq_true_eq, beq_iff_eq, bne_iff_ne, u8s_length, Bool.not_eq_true, gt_iff_lt, ge_iff_le] at hb
        simp
        omega
      have hnm : nm s = false := nm_no hc hno
      (conv => arg 4; whnf); repeat (refine ⟨rfl, ?_⟩; conv => arg 4; whnf)
      refine fin_ret ?_
      show holds _ _ _ _
      conv => arg 4; whnf
      rw [hnm]
      exact ⟨by decide, by (repeat' (first | with_reducible exact Le.refl _ _ | exact Le.bl | exact Le.lb | exact Le.nils | exact Le.nilsFull | exact Le.none | exact LeL.nil _ | refine LeL.cons ?_ ?_ | refine Le.tup ?_ | refine Le.agg ?_ | exact Le.refl _ _ | exact LeL.refl _ _)), trivial, (by (repeat' (first | with_reducible assumption | exact ClL.nil | exact Cl.int _ _ | exact Cl.bool _ | exact Cl.bl _ | exact Cl.bs _ | exact Cl.str _ | exact Cl.nils | exact Cl.nilp | exact Cl.rec _ | exact Cl.bat _ | exact Cl.recsV _ | exact Cl.strsV _ | exact Cl.intsV _ | exact Cl.req _ | exact Cl.rsp _ | exact Cl.reqA _ | exact Cl.rspA _ | exact Cl.batsV _ | exact Cl.prsV _ | exact Cl.atsV _ | exact Cl.entA _ _ | exact Cl.ent _ | exact Cl.rr _ _ | exact Cl.foundA _ | exact Cl.getB _ | exact Cl.encA _ | exact Cl.firstA _ | refine ClL.cons ?_ ?_ | refine Cl.tup ?_ | refine Cl.agg ?_ | exact ClO.RO _ _)) : Cl _) _, trivial⟩
    · have hyes : okC c = true := by
        unfold okC
        rw [← Bool.not_eq_true] at hb; simp only [Bool.cond_true_left, Bool.cond_false_right, Bool.or_eq_true, Bool.and_eq_true, Bool.not_eq_true', decide_eq_true_eq, beq_iff_eq, bne_iff_ne, u8s_length, gt_iff_lt, ge_iff_le] at hb
        simp
        omega
      (conv => arg 4; whnf); repeat (refine ⟨rfl, ?_⟩; conv => arg 4; whnf)
      exact ⟨⟨i + 1, by omega, by rw [htk, hyes]⟩, by show s.length - (i + 1) < s.length - i; omega, WkG.of rfl rfl ⟨Le.of_eq (succ_int (by omega)), Le.refl _ _, trivial⟩ trivial ⟨rfl, rfl, trivial⟩ trivial⟩
  · have h : i = s.length := by first | (rw [u8s_length] at h; simp at h; omega) | (simp at h; omega)
    rw [h, List.take_length] at ha
    conv => arg 4; whnf
    refine fin_exit ?_
    show holds _ _ _ _
    conv => arg 4; whnf
    have hnm : (bif decide ((s.length : Int) ≥ 1) then decide ((s.length : Int) ≤ 20) else false) = nm s := by
      unfold nm
      rw [ha, Bool.eq_iff_iff]
      simp
      omega
    rw [hnm]
    exact ⟨by decide, by (repeat' (first | with_reducible exact Le.refl _ _ | exact Le.bl | exact Le.lb | exact Le.nils | exact Le.nilsFull | exact Le.none | exact LeL.nil _ | refine LeL.cons ?_ ?_ | refine Le.tup ?_ | refine Le.agg ?_ | exact Le.refl _ _ | exact LeL.refl _ _)), trivial, (by (repeat' (first | with_reducible assumption | exact ClL.nil | exact Cl.int _ _ | exact Cl.bool _ | exact Cl.bl _ | exact Cl.bs _ | exact Cl.str _ | exact Cl.nils | exact Cl.nilp | exact Cl.rec _ | exact Cl.bat _ | exact Cl.recsV _ | exact Cl.strsV _ | exact Cl.intsV _ | exact Cl.req _ | exact Cl.rsp _ | exact Cl.reqA _ | exact Cl.rspA _ | exact Cl.batsV _ | exact Cl.prsV _ | exact Cl.atsV _ | exact Cl.entA _ _ | exact Cl.ent _ | exact Cl.rr _ _ | exact Cl.foundA _ | exact Cl.getB _ | exact Cl.encA _ | exact Cl.firstA _ | refine ClL.cons ?_ ?_ | refine Cl.tup ?_ | refine Cl.agg ?_ | exact ClO.RO _ _)) : Cl _) _, trivial⟩

theorem cmMay {e : Ent} (hg : e.g.length ≤ 1000000) (ht : e.t.length ≤ 1000000) : CallOK Try.prog 93 [e.av] [] 0 (Out (.bool (mayE e)) [] 0) := by
  refine CallOK.fit (by decide) ?_
  refine callOK Try.call93 Try.func93 Try.ntmps93 rfl ?_
  conv => arg 4; whnf
  refine call0 (cmName hg) (by (repeat' (first | with_reducible assumption | exact ClL.nil | exact Cl.int _ _ | exact Cl.bool _ | exact Cl.bl _ | exact Cl.bs _ | exact Cl.str _ | exact Cl.nils | exact Cl.nilp | exact Cl.rec _ | exact Cl.bat _ | exact Cl.recsV _ | exact Cl.strsV _ | exact Cl.intsV _ | exact Cl.req _ | exact Cl.rsp _ | exact Cl.reqA _ | exact Cl.rspA _ | exact Cl.batsV _ | exact Cl.prsV _ | exact Cl.atsV _ | exact Cl.entA _ _ | exact Cl.ent _ | exact Cl.rr _ _ | exact Cl.foundA _ | exact Cl.getB _ | exact Cl.encA _ | exact Cl.firstA _ | refine ClL.cons ?_ ?_ | refine Cl.tup ?_ | refine Cl.agg ?_ | exact ClO.RO _ _))) (by (repeat' (first | with_reducible assumption | exact ClL.nil | exact Cl.int _ _ | exact Cl.bool _ | exact Cl.bl _ | exact Cl.bs _ | exact Cl.str _ | exact Cl.nils | exact Cl.nilp | exact Cl.rec _ | exact Cl.bat _ | exact Cl.recsV _ | exact Cl.strsV _ | exact Cl.intsV _ | exact Cl.req _ | exact Cl.rsp _ | exact Cl.reqA _ | exact Cl.rspA _ | exact Cl.batsV _ | exact Cl.prsV _ | exact Cl.atsV _ | exact Cl.entA _ _ | exact Cl.ent _ | exact Cl.rr _ _ | exact Cl.foundA _ | exact Cl.getB _ | exact Cl.encA _ | exact Cl.firstA _ | refine ClL.cons ?_ ?_ | refine Cl.tup ?_ | refine Cl.agg ?_ | exact ClO.RO _ _))) ?_
  (conv => arg 4; whnf); repeat (refine ⟨rfl, ?_⟩; conv => arg 4; whnf)
  refine ⟨fun hb => ?_, fun hb => ?_⟩
  · (conv => arg 4; whnf); repeat (refine ⟨rfl, ?_⟩; conv => arg 4; whnf)
    refine call0 (cmName ht) (by (repeat' (first | with_reducible assumption | exact ClL.nil | exact Cl.int _ _ | exact Cl.bool _ | exact Cl.bl _ | exact Cl.bs _ | exact Cl.str _ | exact Cl.nils | exact Cl.nilp | exact Cl.rec _ | exact Cl.bat _ | exact Cl.recsV _ | exact Cl.strsV _ | exact Cl.intsV _ | exact Cl.req _ | exact Cl.rsp _ | exact Cl.reqA _ | exact Cl.rspA _ | exact Cl.batsV _ | exact Cl.prsV _ | exact Cl.atsV _ | exact Cl.entA _ _ | exact Cl.ent _ | exact Cl.rr _ _ | exact Cl.foundA _ | exact Cl.getB _ | exact Cl.encA _ | exact Cl.firstA _ | refine ClL.cons ?_ ?_ | refine Cl.tup ?_ | refine Cl.agg ?_ | exact ClO.RO _ _))) (by (repeat' (first | with_reducible assumption | exact ClL.nil | exact Cl.int _ _ | exact Cl.bool _ | exact Cl.bl _ | exact Cl.bs _ | exact Cl.str _ | exact Cl.nils | exact Cl.nilp | exact Cl.rec _ | exact Cl.bat _ | exact Cl.recsV _ | exact Cl.strsV _ | exact Cl.intsV _ | exact Cl.req _ | exact Cl.rsp _ | exact Cl.reqA _ | exact Cl.rspA _ | exact Cl.batsV _ | exact Cl.prsV _ | exact Cl.atsV _ | exact Cl.entA _ _ | exact Cl.ent _ | exact Cl.rr _ _ | exact Cl.foundA _ | exact Cl.getB _ | exact Cl.encA _ | exact Cl.firstA _ | refine ClL.cons ?_ ?_ | refine Cl.tup ?_ | refine Cl.agg ?_ | exact ClO.RO _ _))) ?_
    (conv => arg 4; whnf); repeat (refine ⟨rfl, ?_⟩; conv => arg 4; whnf)
    refine ⟨by decide, Le.of_eq (congrArg AV.bool ?_), trivial, (Cl.bool _) _, trivial⟩
    simp only [mayE, place, hb, Bool.true_and, cond_true]
    cases nm e.t <;> simp [Bool.and_assoc, Bool.decide_and]
  · (conv => arg 4; whnf); repeat (refine ⟨rfl, ?_⟩; conv => arg 4; whnf)
    refine ⟨by decide, Le.blOf ?_, trivial, (Cl.bool _) _, trivial⟩
    simp only [mayE, place, hb, Bool.false_and]
theorem cmMayGen {g : List UInt8} {n : Int} (hg : g.length ≤ 1000000) : CallOK Try.prog 96 [.str g, .int .i64 n] [] 0 (Out (.bool (mayG g n)) [] 0) := by
  refine CallOK.fit (by decide) ?_
  refine callOK Try.call96 Try.func96 Try.ntmps96 rfl ?_
  conv => arg 4; whnf
  refine call0 (cmName hg) (by (repeat' (first | with_reducible assumption | exact ClL.nil | exact Cl.int _ _ | exact Cl.bool _ | exact Cl.bl _ | exact Cl.bs _ | exact Cl.str _ | exact Cl.nils | exact Cl.nilp | exact Cl.rec _ | exact Cl.bat _ | exact Cl.recsV _ | exact Cl.strsV _ | exact Cl.intsV _ | exact Cl.req _ | exact Cl.rsp _ | exact Cl.reqA _ | exact Cl.rspA _ | exact Cl.batsV _ | exact Cl.prsV _ | exact Cl.atsV _ | exact Cl.entA _ _ | exact Cl.ent _ | exact Cl.rr _ _ | exact Cl.foundA _ | exact Cl.getB _ | exact Cl.encA _ | exact Cl.firstA _ | refine ClL.cons ?_ ?_ | refine Cl.tup ?_ | refine Cl.agg ?_ | exact ClO.RO _ _))) (by (repeat' (first | with_reducible assumption | exact ClL.nil | exact Cl.int _ _ | exact Cl.bool _ | exact Cl.bl _ | exact Cl.bs _ | exact Cl.str _ | exact Cl.nils | exact Cl.nilp | exact Cl.rec _ | exact Cl.bat _ | exact Cl.recsV _ | exact Cl.strsV _ | exact Cl.intsV _ | exact Cl.req _ | exact Cl.rsp _ | exact Cl.reqA _ | exact Cl.rspA _ | exact Cl.batsV _ | exact Cl.prsV _ | exact Cl.atsV _ | exact Cl.entA _ _ | exact Cl.ent _ | exact Cl.rr _ _ | exact Cl.foundA _ | exact Cl.getB _ | exact Cl.encA _ | exact Cl.firstA _ | refine ClL.cons ?_ ?_ | refine Cl.tup ?_ | refine Cl.agg ?_ | exact ClO.RO _ _))) ?_
  (conv => arg 4; whnf); repeat (refine ⟨rfl, ?_⟩; conv => arg 4; whnf)
  refine ⟨by decide, Le.of_eq (congrArg AV.bool ?_), trivial, (Cl.bool _) _, trivial⟩
  simp only [mayG]
  cases nm g <;> simp [Bool.decide_and]
theorem refPlace {e : Ent} (hg : e.g.length ≤ 1000000) (ht : e.t.length ≤ 1000000) : CallOK Try.prog 95 [e.av] [] 0 (Out (.bool (place e)) [] 0) := by
  refine CallOK.fit (by decide) ?_
  refine callOK Try.call95 Try.func95 Try.ntmps95 rfl ?_
  conv => arg 4; whnf
  refine call0 (refTopic hg) (by (repeat' (first | with_reducible assumption | exact ClL.nil | exact Cl.int _ _ | exact Cl.bool _ | exact Cl.bl _ | exact Cl.bs _ | exact Cl.str _ | exact Cl.nils | exact Cl.nilp | exact Cl.rec _ | exact Cl.bat _ | exact Cl.recsV _ | exact Cl.strsV _ | exact Cl.intsV _ | exact Cl.req _ | exact Cl.rsp _ | exact Cl.reqA _ | exact Cl.rspA _ | exact Cl.batsV _ | exact Cl.prsV _ | exact Cl.atsV _ | exact Cl.entA _ _ | exact Cl.ent _ | exact Cl.rr _ _ | exact Cl.foundA _ | exact Cl.getB _ | exact Cl.encA _ | exact Cl.firstA _ | refine ClL.cons ?_ ?_ | refine Cl.tup ?_ | refine Cl.agg ?_ | exact ClO.RO _ _))) (by (repeat' (first | with_reducible assumption | exact ClL.nil | exact Cl.int _ _ | exact Cl.bool _ | exact Cl.bl _ | exact Cl.bs _ | exact Cl.str _ | exact Cl.nils | exact Cl.nilp | exact Cl.rec _ | exact Cl.bat _ | exact Cl.recsV _ | exact Cl.strsV _ | exact Cl.intsV _ | exact Cl.req _ | exact Cl.rsp _ | exact Cl.reqA _ | exact Cl.rspA _ | exact Cl.batsV _ | exact Cl.prsV _ | exact Cl.atsV _ | exact Cl.entA _ _ | exact Cl.ent _ | exact Cl.rr _ _ | exact Cl.foundA _ | exact Cl.getB _ | exact Cl.encA _ | exact Cl.firstA _ | refine ClL.cons ?_ ?_ | refine Cl.tup ?_ | refine Cl.agg ?_ | exact ClO.RO _ _))) ?_
  (conv => arg 4; whnf); repeat (refine ⟨rfl, ?_⟩; conv => arg 4; whnf)
  refine ⟨fun hb => ?_, fun hb => ?_⟩
  · (conv => arg 4; whnf); repeat (refine ⟨rfl, ?_⟩; conv => arg 4; whnf)
    refine call0 (refTopic ht) (by (repeat' (first | with_reducible assumption | exact ClL.nil | exact Cl.int _ _ | exact Cl.bool _ | exact Cl.bl _ | exact Cl.bs _ | exact Cl.str _ | exact Cl.nils | exact Cl.nilp | exact Cl.rec _ | exact Cl.bat _ | exact Cl.recsV _ | exact Cl.strsV _ | exact Cl.intsV _ | exact Cl.req _ | exact Cl.rsp _ | exact Cl.reqA _ | exact Cl.rspA _ | exact Cl.batsV _ | exact Cl.prsV _ | exact Cl.atsV _ | exact Cl.entA _ _ | exact Cl.ent _ | exact Cl.rr _ _ | exact Cl.foundA _ | exact Cl.getB _ | exact Cl.encA _ | exact Cl.firstA _ | refine ClL.cons ?_ ?_ | refine Cl.tup ?_ | refine Cl.agg ?_ | exact ClO.RO _ _))) (by (repeat' (first | with_reducible assumption | exact ClL.nil | exact Cl.int _ _ | exact Cl.bool _ | exact Cl.bl _ | exact Cl.bs _ | exact Cl.str _ | exact Cl.nils | exact Cl.nilp | exact Cl.rec _ | exact Cl.bat _ | exact Cl.recsV _ | exact Cl.strsV _ | exact Cl.intsV _ | exact Cl.req _ | exact Cl.rsp _ | exact Cl.reqA _ | exact Cl.rspA _ | exact Cl.batsV _ | exact Cl.prsV _ | exact Cl.atsV _ | exact Cl.entA _ _ | exact Cl.ent _ | exact Cl.rr _ _ | exact Cl.foundA _ | exact Cl.getB _ | exact Cl.encA _ | exact Cl.firstA _ | refine ClL.cons ?_ ?_ | refine Cl.tup ?_ | refine Cl.agg ?_ | exact ClO.RO _ _))) ?_
    (conv => arg 4; whnf); repeat (refine ⟨rfl, ?_⟩; conv => arg 4; whnf)
    refine ⟨by decide, Le.of_eq (congrArg AV.bool ?_), trivial, (Cl.bool _) _, trivial⟩
    simp only [place, hb, Bool.true_and, cond_true]
    cases nm e.t <;> simp [Bool.and_assoc, Bool.decide_and]
  · (conv => arg 4; whnf); repeat (refine ⟨rfl, ?_⟩; conv => arg 4; whnf)
    refine ⟨by decide, Le.blOf ?_, trivial, (Cl.bool _) _, trivial⟩
    simp only [place, hb, Bool.false_and]
end Go.Proofs.Ytlifbhcmihnkpaa.Cm

namespace Go.Proofs.Ytlifbhcmihnkpaa.Cm
set_option maxRecDepth 100000
set_option maxHeartbeats 80000000
open Go.Sym

theorem mayE_nums {e : Ent} (h : mayE e = true) : I64 e.p ∧ I64 e.o ∧ e.g.length ≤ 20 ∧ e.t.length ≤ 20 := by
  unfold mayE place at h
  simp only [Bool.and_eq_true, decide_eq_true_eq] at h
  have h1 := nm_len h.1.1
  have h2 := nm_len h.1.2.1
  unfold I64
  omega
theorem mayG_nums {g : List UInt8} {n : Int} (h : mayG g n = true) : I64 n ∧ g.length ≤ 20 := by
  unfold mayG at h
  simp only [Bool.and_eq_true, decide_eq_true_eq] at h
  have h1 := nm_len h.1
  unfold I64
  omega
theorem cut_wob2 {nx s : Nat} (l : List UInt8) : renO (cut 2 nx) (wob 1 s 0 (u8s l) [.bool false]) = wob 1 s 0 (u8s l) [.bool false] := by
  simp only [renO, renL, renL_u8s, ren, renP, cut_lt (show 1 < 2 by decide)]

theorem cmRec {l : List UInt8} {s : Nat} {v now : Int} (hl : l.length ≤ 1000000) (hv : I64 v) : CallOK Try.prog 94 [.ptr 0 0, .int .i64 v, .int .i64 now] [(0, wob 1 s 0 (u8s l) [.bool false]), (1, .tip s)] 2
    (fun a h m => Out (rr (mayT now) (recR l v now)) [(0, wob 1 s 0 (u8s l) [.bool false]), (1, .tip s)] 2 a h m) := by
  refine CallOK.fit (by decide) ?_
  refine callOK Try.call94 Try.func94 Try.ntmps94 rfl ?_
  conv => arg 4; whnf
  refine ⟨fun hb => ?_, fun hb => ?_⟩
  · have hm : mayT now = false := by
      unfold mayT
      simp only [Bool.cond_true_left, Bool.cond_false_right, Bool.or_eq_true, Bool.and_eq_true, Bool.not_eq_true', decide_eq_true_eq, beq_iff_eq, bne_iff_ne, u8s_length, Bool.not_eq_true, gt_iff_lt, ge_iff_le] at hb
      simp
      omega
    (conv => arg 4; whnf); repeat (refine ⟨rfl, ?_⟩; conv => arg 4; whnf)
    rw [hm, rr_no]
    exact ⟨by decide, by (repeat' (first | with_reducible exact Le.refl _ _ | exact Le.bl | exact Le.lb | exact Le.nils | exact Le.nilsFull | exact Le.none | exact LeL.nil _ | refine LeL.cons ?_ ?_ | refine Le.tup ?_ | refine Le.agg ?_ | exact Le.refl _ _ | exact LeL.refl _ _)), ⟨⟨_, rfl, LeO.refl _ _⟩, ⟨_, rfl, LeO.refl _ _⟩, trivial⟩, Cl.tup (ClL.cons (Cl.rec _) (ClL.cons (Cl.int _ _) ClL.nil)) _, ⟨⟨by decide, cut_wob2 _⟩, ⟨by decide, rfl⟩, trivial⟩⟩
  · have hm : mayT now = true := by
      unfold mayT
      rw [← Bool.not_eq_true] at hb; simp only [Bool.cond_true_left, Bool.cond_false_right, Bool.or_eq_true, Bool.and_eq_true, Bool.not_eq_true', decide_eq_true_eq, beq_iff_eq, bne_iff_ne, u8s_length, gt_iff_lt, ge_iff_le] at hb
      simp
      omega
    (conv => arg 4; whnf); repeat (refine ⟨rfl, ?_⟩; conv => arg 4; whnf)
    refine callWD 0 1 (wDoneT (by omega)) (by decide) (by decide) rfl rfl (ClL.u8s _) (ClL.cons (Cl.bool _) ClL.nil) (ClL.u8s _) (ClL.cons (Cl.bool _) ClL.nil) (ClL.u8s _) (ClL.cons (Cl.bl _) ClL.nil) rfl fun s7 => ?_
    (conv => arg 4; whnf); repeat (refine ⟨rfl, ?_⟩; conv => arg 4; whnf)
    refine call0 (numPut hv) (by (repeat' (first | with_reducible assumption | exact ClL.nil | exact Cl.int _ _ | exact Cl.bool _ | exact Cl.bl _ | exact Cl.bs _ | exact Cl.str _ | exact Cl.nils | exact Cl.nilp | exact Cl.rec _ | exact Cl.bat _ | exact Cl.recsV _ | exact Cl.strsV _ | exact Cl.intsV _ | exact Cl.req _ | exact Cl.rsp _ | exact Cl.reqA _ | exact Cl.rspA _ | exact Cl.batsV _ | exact Cl.prsV _ | exact Cl.atsV _ | exact Cl.entA _ _ | exact Cl.ent _ | exact Cl.rr _ _ | exact Cl.foundA _ | exact Cl.getB _ | exact Cl.encA _ | exact Cl.firstA _ | refine ClL.cons ?_ ?_ | refine Cl.tup ?_ | refine Cl.agg ?_ | exact ClO.RO _ _))) (by (repeat' (first | with_reducible assumption | exact ClL.nil | exact Cl.int _ _ | exact Cl.bool _ | exact Cl.bl _ | exact Cl.bs _ | exact Cl.str _ | exact Cl.nils | exact Cl.nilp | exact Cl.rec _ | exact Cl.bat _ | exact Cl.recsV _ | exact Cl.strsV _ | exact Cl.intsV _ | exact Cl.req _ | exact Cl.rsp _ | exact Cl.reqA _ | exact Cl.rspA _ | exact Cl.batsV _ | exact Cl.prsV _ | exact Cl.atsV _ | exact Cl.entA _ _ | exact Cl.ent _ | exact Cl.rr _ _ | exact Cl.foundA _ | exact Cl.getB _ | exact Cl.encA _ | exact Cl.firstA _ | refine ClL.cons ?_ ?_ | refine Cl.tup ?_ | refine Cl.agg ?_ | exact ClO.RO _ _))) ?_
    (conv => arg 4; whnf); repeat (refine ⟨rfl, ?_⟩; conv => arg 4; whnf)
    rw [hm, rr_yes]
    exact ⟨by decide, by (repeat' (first | with_reducible exact Le.refl _ _ | exact Le.bl | exact Le.lb | exact Le.nils | exact Le.nilsFull | exact Le.none | exact LeL.nil _ | refine LeL.cons ?_ ?_ | refine Le.tup ?_ | refine Le.agg ?_ | exact Le.refl _ _ | exact LeL.refl _ _)), ⟨⟨_, rfl, LeO.refl _ _⟩, ⟨_, rfl, LeO.refl _ _⟩, trivial⟩, Cl.tup (ClL.cons (Cl.rec _) (ClL.cons (Cl.int _ _) ClL.nil)) _, ⟨⟨by decide, cut_wob2 _⟩, ⟨by decide, rfl⟩, trivial⟩⟩
theorem cmRecord {e : Ent} {now : Int} (hg : e.g.length ≤ 1000000) (ht : e.t.length ≤ 1000000) : CallOK Try.prog 40 [e.av, .int .i64 now] [] 0 (Out (rr (mayE e && mayT now) (recR (keyO e) e.o now)) [] 0) := by
  refine CallOK.fit (by decide) ?_
  refine callOK Try.call40 Try.func40 Try.ntmps40 rfl ?_
  conv => arg 4; whnf
  refine call0 (cmMay hg ht) (by (repeat' (first | with_reducible assumption | exact ClL.nil | exact Cl.int _ _ | exact Cl.bool _ | exact Cl.bl _ | exact Cl.bs _ | exact Cl.str _ | exact Cl.nils | exact Cl.nilp | exact Cl.rec _ | exact Cl.bat _ | exact Cl.recsV _ | exact Cl.strsV _ | exact Cl.intsV _ | exact Cl.req _ | exact Cl.rsp _ | exact Cl.reqA _ | exact Cl.rspA _ | exact Cl.batsV _ | exact Cl.prsV _ | exact Cl.atsV _ | exact Cl.entA _ _ | exact Cl.ent _ | exact Cl.rr _ _ | exact Cl.foundA _ | exact Cl.getB _ | exact Cl.encA _ | exact Cl.firstA _ | refine ClL.cons ?_ ?_ | refine Cl.tup ?_ | refine Cl.agg ?_ | exact ClO.RO _ _))) (by (repeat' (first | with_reducible assumption | exact ClL.nil | exact Cl.int _ _ | exact Cl.bool _ | exact Cl.bl _ | exact Cl.bs _ | exact Cl.str _ | exact Cl.nils | exact Cl.nilp | exact Cl.rec _ | exact Cl.bat _ | exact Cl.recsV _ | exact Cl.strsV _ | exact Cl.intsV _ | exact Cl.req _ | exact Cl.rsp _ | exact Cl.reqA _ | exact Cl.rspA _ | exact Cl.batsV _ | exact Cl.prsV _ | exact Cl.atsV _ | exact Cl.entA _ _ | exact Cl.ent _ | exact Cl.rr _ _ | exact Cl.foundA _ | exact Cl.getB _ | exact Cl.encA _ | exact Cl.firstA _ | refine ClL.cons ?_ ?_ | refine Cl.tup ?_ | refine Cl.agg ?_ | exact ClO.RO _ _))) ?_
  (conv => arg 4; whnf); repeat (refine ⟨rfl, ?_⟩; conv => arg 4; whnf)
  refine ⟨fun hb => ?_, fun hb => ?_⟩
  · have hb : mayE e = false := by simpa using hb
    (conv => arg 4; whnf); repeat (refine ⟨rfl, ?_⟩; conv => arg 4; whnf)
    rw [hb, Bool.false_and, rr_no]
    exact ⟨by decide, by (repeat' (first | with_reducible exact Le.refl _ _ | exact Le.bl | exact Le.lb | exact Le.nils | exact Le.nilsFull | exact Le.none | exact LeL.nil _ | refine LeL.cons ?_ ?_ | refine Le.tup ?_ | refine Le.agg ?_ | exact Le.refl _ _ | exact LeL.refl _ _)), trivial, (by (repeat' (first | with_reducible assumption | exact ClL.nil | exact Cl.int _ _ | exact Cl.bool _ | exact Cl.bl _ | exact Cl.bs _ | exact Cl.str _ | exact Cl.nils | exact Cl.nilp | exact Cl.rec _ | exact Cl.bat _ | exact Cl.recsV _ | exact Cl.strsV _ | exact Cl.intsV _ | exact Cl.req _ | exact Cl.rsp _ | exact Cl.reqA _ | exact Cl.rspA _ | exact Cl.batsV _ | exact Cl.prsV _ | exact Cl.atsV _ | exact Cl.entA _ _ | exact Cl.ent _ | exact Cl.rr _ _ | exact Cl.foundA _ | exact Cl.getB _ | exact Cl.encA _ | exact Cl.firstA _ | refine ClL.cons ?_ ?_ | refine Cl.tup ?_ | refine Cl.agg ?_ | exact ClO.RO _ _)) : Cl _) _, trivial⟩
  · have hb : mayE e = true := by simpa using hb
    (conv => arg 4; whnf); repeat (refine ⟨rfl, ?_⟩; conv => arg 4; whnf)
    have hok : I64 e.p ∧ I64 e.o ∧ e.g.length ≤ 20 ∧ e.t.length ≤ 20 := mayE_nums hb
    obtain ⟨i1, i2, i3, i4⟩ := hok
    have p1 := put_len i1
    have q1 : (put ([111] : List UInt8).length).length ≤ 10 := put_len (by unfold I64; decide)
    have q2 := put_len (n := (e.g.length : Int)) (by unfold I64; omega)
    have q3 := put_len (n := (e.t.length : Int)) (by unfold I64; omega)
    refine holds_wnew 2 0 [.bl false] [.bool false] rfl (LeL.cons Le.bl (LeL.nil _)) (by decide) ?_
    refine callW 2 3 (wText (l := []) (b := [111]) (by simp)) (by decide) (by decide) rfl rfl (ClL.u8s _) (ClL.cons (Cl.bool _) ClL.nil) (ClL.u8s _) (ClL.cons (Cl.bool _) ClL.nil) rfl rfl ?_
    (conv => arg 4; whnf); repeat (refine ⟨rfl, ?_⟩; conv => arg 4; whnf)
    refine callW 2 3 (wText (b := e.g) (by simp only [List.length_append, List.length_nil, List.length_cons] at *; omega)) (by decide) (by decide) rfl rfl (ClL.u8s _) (ClL.cons (Cl.bool _) ClL.nil) (ClL.u8s _) (ClL.cons (Cl.bool _) ClL.nil) rfl rfl ?_
    (conv => arg 4; whnf); repeat (refine ⟨rfl, ?_⟩; conv => arg 4; whnf)
    refine callW 2 3 (wText (b := e.t) (by simp only [List.length_append, List.length_nil, List.length_cons] at *; omega)) (by decide) (by decide) rfl rfl (ClL.u8s _) (ClL.cons (Cl.bool _) ClL.nil) (ClL.u8s _) (ClL.cons (Cl.bool _) ClL.nil) rfl rfl ?_
    (conv => arg 4; whnf); repeat (refine ⟨rfl, ?_⟩; conv => arg 4; whnf)
    refine callW 2 3 (wNum (n := e.p) i1 (by simp only [List.length_append, List.length_nil, List.length_cons] at *; omega)) (by decide) (by decide) rfl rfl (ClL.u8s _) (ClL.cons (Cl.bool _) ClL.nil) (ClL.u8s _) (ClL.cons (Cl.bool _) ClL.nil) rfl rfl ?_
    (conv => arg 4; whnf); repeat (refine ⟨rfl, ?_⟩; conv => arg 4; whnf)
    refine callW 2 3 (cmRec (now := now) (by simp only [List.length_append, List.length_nil, List.length_cons] at *; omega) i2) (by decide) (by decide) rfl rfl (ClL.u8s _) (ClL.cons (Cl.bool _) ClL.nil) (ClL.u8s _) (ClL.cons (Cl.bool _) ClL.nil) rfl (Cl.rr _ _ _) ?_
    (conv => arg 4; whnf); repeat (refine ⟨rfl, ?_⟩; conv => arg 4; whnf)
    rw [hb, Bool.true_and]
    exact ⟨by decide, Le.refl _ _, trivial, Cl.rr _ _ _, trivial⟩
theorem cmGenRecord {g : List UInt8} {n now : Int} (hg : g.length ≤ 1000000) : CallOK Try.prog 43 [.str g, .int .i64 n, .int .i64 now] [] 0 (Out (rr (mayG g n && mayT now) (recR (keyG g) n now)) [] 0) := by
  refine CallOK.fit (by decide) ?_
  refine callOK Try.call43 Try.func43 Try.ntmps43 rfl ?_
  conv => arg 4; whnf
  refine call0 (cmMayGen hg) (by (repeat' (first | with_reducible assumption | exact ClL.nil | exact Cl.int _ _ | exact Cl.bool _ | exact Cl.bl _ | exact Cl.bs _ | exact Cl.str _ | exact Cl.nils | exact Cl.nilp | exact Cl.rec _ | exact Cl.bat _ | exact Cl.recsV _ | exact Cl.strsV _ | exact Cl.intsV _ | exact Cl.req _ | exact Cl.rsp _ | exact Cl.reqA _ | exact Cl.rspA _ | exact Cl.batsV _ | exact Cl.prsV _ | exact Cl.atsV _ | exact Cl.entA _ _ | exact Cl.ent _ | exact Cl.rr _ _ | exact Cl.foundA _ | exact Cl.getB _ | exact Cl.encA _ | exact Cl.firstA _ | refine ClL.cons ?_ ?_ | refine Cl.tup ?_ | refine Cl.agg ?_ | exact ClO.RO _ _))) (by (repeat' (first | with_reducible assumption | exact ClL.nil | exact Cl.int _ _ | exact Cl.bool _ | exact Cl.bl _ | exact Cl.bs _ | exact Cl.str _ | exact Cl.nils | exact Cl.nilp | exact Cl.rec _ | exact Cl.bat _ | exact Cl.recsV _ | exact Cl.strsV _ | exact Cl.intsV _ | exact Cl.req _ | exact Cl.rsp _ | exact Cl.reqA _ | exact Cl.rspA _ | exact Cl.batsV _ | exact Cl.prsV _ | exact Cl.atsV _ | exact Cl.entA _ _ | exact Cl.ent _ | exact Cl.rr _ _ | exact Cl.foundA _ | exact Cl.getB _ | exact Cl.encA _ | exact Cl.firstA _ | refine ClL.cons ?_ ?_ | refine Cl.tup ?_ | refine Cl.agg ?_ | exact ClO.RO _ _))) ?_
  (conv => arg 4; whnf); repeat (refine ⟨rfl, ?_⟩; conv => arg 4; whnf)
  refine ⟨fun hb => ?_, fun hb => ?_⟩
  · have hb : mayG g n = false := by simpa using hb
    (conv => arg 4; whnf); repeat (refine ⟨rfl, ?_⟩; conv => arg 4; whnf)
    rw [hb, Bool.false_and, rr_no]
    exact ⟨by decide, by (repeat' (first | with_reducible exact Le.refl _ _ | exact Le.bl | exact Le.lb | exact Le.nils | exact Le.nilsFull | exact Le.none | exact LeL.nil _ | refine LeL.cons ?_ ?_ | refine Le.tup ?_ | refine Le.agg ?_ | exact Le.refl _ _ | exact LeL.refl _ _)), trivial, (by (repeat' (first | with_reducible assumption | exact ClL.nil | exact Cl.int _ _ | exact Cl.bool _ | exact Cl.bl _ | exact Cl.bs _ | exact Cl.str _ | exact Cl.nils | exact Cl.nilp | exact Cl.rec _ | exact Cl.bat _ | exact Cl.recsV _ | exact Cl.strsV _ | exact Cl.intsV _ | exact Cl.req _ | exact Cl.rsp _ | exact Cl.reqA _ | exact Cl.rspA _ | exact Cl.batsV _ | exact Cl.prsV _ | exact Cl.atsV _ | exact Cl.entA _ _ | exact Cl.ent _ | exact Cl.rr _ _ | exact Cl.foundA _ | exact Cl.getB _ | exact Cl.encA _ | exact Cl.firstA _ | refine ClL.cons ?_ ?_ | refine Cl.tup ?_ | refine Cl.agg ?_ | exact ClO.RO _ _)) : Cl _) _, trivial⟩
  · have hb : mayG g n = true := by simpa using hb
    (conv => arg 4; whnf); repeat (refine ⟨rfl, ?_⟩; conv => arg 4; whnf)
    have hok : I64 n ∧ g.length ≤ 20 := mayG_nums hb
    obtain ⟨i1, i3⟩ := hok
    have q1 : (put ([103] : List UInt8).length).length ≤ 10 := put_len (by unfold I64; decide)
    have q2 := put_len (n := (g.length : Int)) (by unfold I64; omega)
    refine holds_wnew 1 0 [.bl false] [.bool false] rfl (LeL.cons Le.bl (LeL.nil _)) (by decide) ?_
    refine callW 1 2 (wText (l := []) (b := [103]) (by simp)) (by decide) (by decide) rfl rfl (ClL.u8s _) (ClL.cons (Cl.bool _) ClL.nil) (ClL.u8s _) (ClL.cons (Cl.bool _) ClL.nil) rfl rfl ?_
    (conv => arg 4; whnf); repeat (refine ⟨rfl, ?_⟩; conv => arg 4; whnf)
    refine callW 1 2 (wText (b := g) (by simp only [List.length_append, List.length_nil, List.length_cons] at *; omega)) (by decide) (by decide) rfl rfl (ClL.u8s _) (ClL.cons (Cl.bool _) ClL.nil) (ClL.u8s _) (ClL.cons (Cl.bool _) ClL.nil) rfl rfl ?_
    (conv => arg 4; whnf); repeat (refine ⟨rfl, ?_⟩; conv => arg 4; whnf)
    refine callW 1 2 (cmRec (now := now) (by simp only [List.length_append, List.length_nil, List.length_cons] at *; omega) i1) (by decide) (by decide) rfl rfl (ClL.u8s _) (ClL.cons (Cl.bool _) ClL.nil) (ClL.u8s _) (ClL.cons (Cl.bool _) ClL.nil) rfl (Cl.rr _ _ _) ?_
    (conv => arg 4; whnf); repeat (refine ⟨rfl, ?_⟩; conv => arg 4; whnf)
    rw [hb, Bool.true_and]
    exact ⟨by decide, Le.refl _ _, trivial, Cl.rr _ _ _, trivial⟩
theorem refTextT {b : List UInt8} (hl : b.length ≤ 1000000000) :
    CallOK Try.prog 85 [.str b] [] 0 (NewSl 0 (u8s (put b.length ++ b))) := by
  have hn : I64 (b.length : Int) := by unfold I64; omega
  have hp := put_len hn
  refine callOK Try.call85 Try.func85 Try.ntmps85 rfl ?_
  conv => arg 4; whnf
  refine callT (refPutT hn) (ClL.cons (Cl.int _ _) ClL.nil) (ClL.u8s _) fun s => ?_
  (conv => arg 4; whnf); repeat (refine ⟨rfl, ?_⟩; conv => arg 4; whnf)
  refine ⟨⟨by first | rfl | trivial, sizeOk 1 rfl ?_⟩, ?_⟩
  · simp [u8s_length]; omega
  conv => arg 4; whnf
  refine ⟨s + 1, ?_, rfl, rfl⟩
  rw [← u8s_append]

theorem refRecord {e : Ent} {now : Int} (hg : e.g.length ≤ 1000000) (ht : e.t.length ≤ 1000000) : CallOK Try.prog 42 [e.av, .int .i64 now] [] 0 (Out (rr (mayE e && mayT now) (recR (keyO e) e.o now)) [] 0) := by
  refine CallOK.fit (by decide) ?_
  refine callOK Try.call42 Try.func42 Try.ntmps42 rfl ?_
  conv => arg 4; whnf
  refine call0 (refPlace hg ht) (by (repeat' (first | with_reducible assumption | exact ClL.nil | exact Cl.int _ _ | exact Cl.bool _ | exact Cl.bl _ | exact Cl.bs _ | exact Cl.str _ | exact Cl.nils | exact Cl.nilp | exact Cl.rec _ | exact Cl.bat _ | exact Cl.recsV _ | exact Cl.strsV _ | exact Cl.intsV _ | exact Cl.req _ | exact Cl.rsp _ | exact Cl.reqA _ | exact Cl.rspA _ | exact Cl.batsV _ | exact Cl.prsV _ | exact Cl.atsV _ | exact Cl.entA _ _ | exact Cl.ent _ | exact Cl.rr _ _ | exact Cl.foundA _ | exact Cl.getB _ | exact Cl.encA _ | exact Cl.firstA _ | refine ClL.cons ?_ ?_ | refine Cl.tup ?_ | refine Cl.agg ?_ | exact ClO.RO _ _))) (by (repeat' (first | with_reducible assumption | exact ClL.nil | exact Cl.int _ _ | exact Cl.bool _ | exact Cl.bl _ | exact Cl.bs _ | exact Cl.str _ | exact Cl.nils | exact Cl.nilp | exact Cl.rec _ | exact Cl.bat _ | exact Cl.recsV _ | exact Cl.strsV _ | exact Cl.intsV _ | exact Cl.req _ | exact Cl.rsp _ | exact Cl.reqA _ | exact Cl.rspA _ | exact Cl.batsV _ | exact Cl.prsV _ | exact Cl.atsV _ | exact Cl.entA _ _ | exact Cl.ent _ | exact Cl.rr _ _ | exact Cl.foundA _ | exact Cl.getB _ | exact Cl.encA _ | exact Cl.firstA _ | refine ClL.cons ?_ ?_ | refine Cl.tup ?_ | refine Cl.agg ?_ | exact ClO.RO _ _))) ?_
  (conv => arg 4; whnf); repeat (refine ⟨rfl, ?_⟩; conv => arg 4; whnf)
  refine ⟨fun hb => ?_, fun hb => ?_⟩
  · have hm : (mayE e && mayT now) = false := by
      rw [← Bool.not_eq_true, Bool.and_eq_true]
      unfold mayE mayT
      simp only [Bool.cond_true_left, Bool.cond_false_right, Bool.or_eq_true, Bool.and_eq_true, Bool.not_eq_true', decide_eq_true_eq, beq_iff_eq, bne_iff_ne, u8s_length, Bool.not_eq_true, gt_iff_lt, ge_iff_le] at hb
      simp only [Bool.and_eq_true, decide_eq_true_eq]
      rintro ⟨⟨h1, h2⟩, h3⟩
      rw [h1] at hb
      simp only [Bool.true_eq_false, false_or, Bool.not_true, Bool.false_eq_true] at hb
      omega
    (conv => arg 4; whnf); repeat (refine ⟨rfl, ?_⟩; conv => arg 4; whnf)
    rw [hm, rr_no]
    exact ⟨by decide, by (repeat' (first | with_reducible exact Le.refl _ _ | exact Le.bl | exact Le.lb | exact Le.nils | exact Le.nilsFull | exact Le.none | exact LeL.nil _ | refine LeL.cons ?_ ?_ | refine Le.tup ?_ | refine Le.agg ?_ | exact Le.refl _ _ | exact LeL.refl _ _)), trivial, (by (repeat' (first | with_reducible assumption | exact ClL.nil | exact Cl.int _ _ | exact Cl.bool _ | exact Cl.bl _ | exact Cl.bs _ | exact Cl.str _ | exact Cl.nils | exact Cl.nilp | exact Cl.rec _ | exact Cl.bat _ | exact Cl.recsV _ | exact Cl.strsV _ | exact Cl.intsV _ | exact Cl.req _ | exact Cl.rsp _ | exact Cl.reqA _ | exact Cl.rspA _ | exact Cl.batsV _ | exact Cl.prsV _ | exact Cl.atsV _ | exact Cl.entA _ _ | exact Cl.ent _ | exact Cl.rr _ _ | exact Cl.foundA _ | exact Cl.getB _ | exact Cl.encA _ | exact Cl.firstA _ | refine ClL.cons ?_ ?_ | refine Cl.tup ?_ | refine Cl.agg ?_ | exact ClO.RO _ _)) : Cl _) _, trivial⟩
  · have hm : mayE e = true ∧ mayT now = true := by
      unfold mayE mayT
      rw [← Bool.not_eq_true] at hb; simp only [Bool.cond_true_left, Bool.cond_false_right, Bool.or_eq_true, Bool.and_eq_true, Bool.not_eq_true', decide_eq_true_eq, beq_iff_eq, bne_iff_ne, u8s_length, gt_iff_lt, ge_iff_le] at hb
      simp only [Bool.and_eq_true, decide_eq_true_eq]
      cases hp : place e
      · rw [hp] at hb
        simp at hb
      · rw [hp] at hb
        simp only [Bool.true_eq_false, false_or, Bool.not_true, Bool.false_eq_true] at hb
        simp only [true_and]
        omega
    obtain ⟨hm, hmt⟩ := hm
    (conv => arg 4; whnf); repeat (refine ⟨rfl, ?_⟩; conv => arg 4; whnf)
    obtain ⟨i1, i2, i3, i4⟩ := mayE_nums hm
    have p1 := put_len i1
    have q1 : (put ([111] : List UInt8).length).length ≤ 10 := put_len (by unfold I64; decide)
    have q2 := put_len (n := (e.g.length : Int)) (by unfold I64; omega)
    have q3 := put_len (n := (e.t.length : Int)) (by unfold I64; omega)
    refine callT (refTextT (b := [111]) (by decide)) (ClL.cons (Cl.str _) ClL.nil) (ClL.u8s _) fun s => ?_
    (conv => arg 4; whnf); repeat (refine ⟨rfl, ?_⟩; conv => arg 4; whnf)
    refine call0 (refText (b := e.g) (by omega)) (by (repeat' (first | with_reducible assumption | exact ClL.nil | exact Cl.int _ _ | exact Cl.bool _ | exact Cl.bl _ | exact Cl.bs _ | exact Cl.str _ | exact Cl.nils | exact Cl.nilp | exact Cl.rec _ | exact Cl.bat _ | exact Cl.recsV _ | exact Cl.strsV _ | exact Cl.intsV _ | exact Cl.req _ | exact Cl.rsp _ | exact Cl.reqA _ | exact Cl.rspA _ | exact Cl.batsV _ | exact Cl.prsV _ | exact Cl.atsV _ | exact Cl.entA _ _ | exact Cl.ent _ | exact Cl.rr _ _ | exact Cl.foundA _ | exact Cl.getB _ | exact Cl.encA _ | exact Cl.firstA _ | refine ClL.cons ?_ ?_ | refine Cl.tup ?_ | refine Cl.agg ?_ | exact ClO.RO _ _))) (Cl.bs _) ?_
    (conv => arg 4; whnf); repeat (refine ⟨rfl, ?_⟩; conv => arg 4; whnf)
    refine ⟨⟨by first | rfl | trivial, sizeOk 1 rfl ?_⟩, ?_⟩
    · simp only [List.length_append, u8s_length, List.length_cons, List.length_nil] at *; omega
    (conv => arg 4; whnf); repeat (refine ⟨rfl, ?_⟩; conv => arg 4; whnf)
    refine call0 (refText (b := e.t) (by omega)) (by (repeat' (first | with_reducible assumption | exact ClL.nil | exact Cl.int _ _ | exact Cl.bool _ | exact Cl.bl _ | exact Cl.bs _ | exact Cl.str _ | exact Cl.nils | exact Cl.nilp | exact Cl.rec _ | exact Cl.bat _ | exact Cl.recsV _ | exact Cl.strsV _ | exact Cl.intsV _ | exact Cl.req _ | exact Cl.rsp _ | exact Cl.reqA _ | exact Cl.rspA _ | exact Cl.batsV _ | exact Cl.prsV _ | exact Cl.atsV _ | exact Cl.entA _ _ | exact Cl.ent _ | exact Cl.rr _ _ | exact Cl.foundA _ | exact Cl.getB _ | exact Cl.encA _ | exact Cl.firstA _ | refine ClL.cons ?_ ?_ | refine Cl.tup ?_ | refine Cl.agg ?_ | exact ClO.RO _ _))) (Cl.bs _) ?_
    (conv => arg 4; whnf); repeat (refine ⟨rfl, ?_⟩; conv => arg 4; whnf)
    refine ⟨⟨by first | rfl | trivial, sizeOk 1 rfl ?_⟩, ?_⟩
    · simp only [List.length_append, u8s_length, List.length_cons, List.length_nil] at *; omega
    (conv => arg 4; whnf); repeat (refine ⟨rfl, ?_⟩; conv => arg 4; whnf)
    refine call0 (refPut i1) (by (repeat' (first | with_reducible assumption | exact ClL.nil | exact Cl.int _ _ | exact Cl.bool _ | exact Cl.bl _ | exact Cl.bs _ | exact Cl.str _ | exact Cl.nils | exact Cl.nilp | exact Cl.rec _ | exact Cl.bat _ | exact Cl.recsV _ | exact Cl.strsV _ | exact Cl.intsV _ | exact Cl.req _ | exact Cl.rsp _ | exact Cl.reqA _ | exact Cl.rspA _ | exact Cl.batsV _ | exact Cl.prsV _ | exact Cl.atsV _ | exact Cl.entA _ _ | exact Cl.ent _ | exact Cl.rr _ _ | exact Cl.foundA _ | exact Cl.getB _ | exact Cl.encA _ | exact Cl.firstA _ | refine ClL.cons ?_ ?_ | refine Cl.tup ?_ | refine Cl.agg ?_ | exact ClO.RO _ _))) (Cl.bs _) ?_
    (conv => arg 4; whnf); repeat (refine ⟨rfl, ?_⟩; conv => arg 4; whnf)
    refine ⟨⟨by first | rfl | trivial, sizeOk 1 rfl ?_⟩, ?_⟩
    · simp only [List.length_append, u8s_length, List.length_cons, List.length_nil] at *; omega
    (conv => arg 4; whnf); repeat (refine ⟨rfl, ?_⟩; conv => arg 4; whnf)
    refine call0 (refPut i2) (by (repeat' (first | with_reducible assumption | exact ClL.nil | exact Cl.int _ _ | exact Cl.bool _ | exact Cl.bl _ | exact Cl.bs _ | exact Cl.str _ | exact Cl.nils | exact Cl.nilp | exact Cl.rec _ | exact Cl.bat _ | exact Cl.recsV _ | exact Cl.strsV _ | exact Cl.intsV _ | exact Cl.req _ | exact Cl.rsp _ | exact Cl.reqA _ | exact Cl.rspA _ | exact Cl.batsV _ | exact Cl.prsV _ | exact Cl.atsV _ | exact Cl.entA _ _ | exact Cl.ent _ | exact Cl.rr _ _ | exact Cl.foundA _ | exact Cl.getB _ | exact Cl.encA _ | exact Cl.firstA _ | refine ClL.cons ?_ ?_ | refine Cl.tup ?_ | refine Cl.agg ?_ | exact ClO.RO _ _))) (Cl.bs _) ?_
    (conv => arg 4; whnf); repeat (refine ⟨rfl, ?_⟩; conv => arg 4; whnf)
    rw [hm, hmt, Bool.true_and, rr_yes]
    exact ⟨by decide, Le.tup (LeL.cons (Le.agg (LeL.cons (Le.refl _ _) (LeL.cons (Le.refl _ _) (LeL.cons Le.bl (LeL.cons (Le.noneOf (by show _ = u8s (keyO e); simp only [keyO, lenB, u8s_append])) (LeL.cons Le.bl (LeL.cons (Le.refl _ _) (LeL.nil _)))))))) (LeL.cons (Le.refl _ _) (LeL.nil _))), trivial, Cl.tup (ClL.cons (Cl.rec _) (ClL.cons (Cl.int _ _) ClL.nil)) _, trivial⟩
theorem refGenRecord {g : List UInt8} {n now : Int} (hg : g.length ≤ 1000000) : CallOK Try.prog 44 [.str g, .int .i64 n, .int .i64 now] [] 0 (Out (rr (mayG g n && mayT now) (recR (keyG g) n now)) [] 0) := by
  refine CallOK.fit (by decide) ?_
  refine callOK Try.call44 Try.func44 Try.ntmps44 rfl ?_
  conv => arg 4; whnf
  refine call0 (refTopic hg) (by (repeat' (first | with_reducible assumption | exact ClL.nil | exact Cl.int _ _ | exact Cl.bool _ | exact Cl.bl _ | exact Cl.bs _ | exact Cl.str _ | exact Cl.nils | exact Cl.nilp | exact Cl.rec _ | exact Cl.bat _ | exact Cl.recsV _ | exact Cl.strsV _ | exact Cl.intsV _ | exact Cl.req _ | exact Cl.rsp _ | exact Cl.reqA _ | exact Cl.rspA _ | exact Cl.batsV _ | exact Cl.prsV _ | exact Cl.atsV _ | exact Cl.entA _ _ | exact Cl.ent _ | exact Cl.rr _ _ | exact Cl.foundA _ | exact Cl.getB _ | exact Cl.encA _ | exact Cl.firstA _ | refine ClL.cons ?_ ?_ | refine Cl.tup ?_ | refine Cl.agg ?_ | exact ClO.RO _ _))) (by (repeat' (first | with_reducible assumption | exact ClL.nil | exact Cl.int _ _ | exact Cl.bool _ | exact Cl.bl _ | exact Cl.bs _ | exact Cl.str _ | exact Cl.nils | exact Cl.nilp | exact Cl.rec _ | exact Cl.bat _ | exact Cl.recsV _ | exact Cl.strsV _ | exact Cl.intsV _ | exact Cl.req _ | exact Cl.rsp _ | exact Cl.reqA _ | exact Cl.rspA _ | exact Cl.batsV _ | exact Cl.prsV _ | exact Cl.atsV _ | exact Cl.entA _ _ | exact Cl.ent _ | exact Cl.rr _ _ | exact Cl.foundA _ | exact Cl.getB _ | exact Cl.encA _ | exact Cl.firstA _ | refine ClL.cons ?_ ?_ | refine Cl.tup ?_ | refine Cl.agg ?_ | exact ClO.RO _ _))) ?_
  (conv => arg 4; whnf); repeat (refine ⟨rfl, ?_⟩; conv => arg 4; whnf)
  refine ⟨fun hb => ?_, fun hb => ?_⟩
  · have hm : (mayG g n && mayT now) = false := by
      rw [← Bool.not_eq_true, Bool.and_eq_true]
      unfold mayG mayT
      simp only [Bool.cond_true_left, Bool.cond_false_right, Bool.or_eq_true, Bool.and_eq_true, Bool.not_eq_true', decide_eq_true_eq, beq_iff_eq, bne_iff_ne, u8s_length, Bool.not_eq_true, gt_iff_lt, ge_iff_le] at hb
      simp only [Bool.and_eq_true, decide_eq_true_eq]
      rintro ⟨⟨h1, h2⟩, h3⟩
      rw [h1] at hb
      simp only [Bool.true_eq_false, false_or, Bool.not_true, Bool.false_eq_true] at hb
      omega
    (conv => arg 4; whnf); repeat (refine ⟨rfl, ?_⟩; conv => arg 4; whnf)
    rw [hm, rr_no]
    exact ⟨by decide, by (repeat' (first | with_reducible exact Le.refl _ _ | exact Le.bl | exact Le.lb | exact Le.nils | exact Le.nilsFull | exact Le.none | exact LeL.nil _ | refine LeL.cons ?_ ?_ | refine Le.tup ?_ | refine Le.agg ?_ | exact Le.refl _ _ | exact LeL.refl _ _)), trivial, (by (repeat' (first | with_reducible assumption | exact ClL.nil | exact Cl.int _ _ | exact Cl.bool _ | exact Cl.bl _ | exact Cl.bs _ | exact Cl.str _ | exact Cl.nils | exact Cl.nilp | exact Cl.rec _ | exact Cl.bat _ | exact Cl.recsV _ | exact Cl.strsV _ | exact Cl.intsV _ | exact Cl.req _ | exact Cl.rsp _ | exact Cl.reqA _ | exact Cl.rspA _ | exact Cl.batsV _ | exact Cl.prsV _ | exact Cl.atsV _ | exact Cl.entA _ _ | exact Cl.ent _ | exact Cl.rr _ _ | exact Cl.foundA _ | exact Cl.getB _ | exact Cl.encA _ | exact Cl.firstA _ | refine ClL.cons ?_ ?_ | refine Cl.tup ?_ | refine Cl.agg ?_ | exact ClO.RO _ _)) : Cl _) _, trivial⟩
  · have hm : mayG g n = true ∧ mayT now = true := by
      unfold mayG mayT
      rw [← Bool.not_eq_true] at hb; simp only [Bool.cond_true_left, Bool.cond_false_right, Bool.or_eq_true, Bool.and_eq_true, Bool.not_eq_true', decide_eq_true_eq, beq_iff_eq, bne_iff_ne, u8s_length, gt_iff_lt, ge_iff_le] at hb
      simp only [Bool.and_eq_true, decide_eq_true_eq]
      cases hp : nm g
      · rw [hp] at hb
        simp at hb
      · rw [hp] at hb
        simp only [Bool.true_eq_false, false_or, Bool.not_true, Bool.false_eq_true] at hb
        simp only [true_and]
        omega
    obtain ⟨hm, hmt⟩ := hm
    (conv => arg 4; whnf); repeat (refine ⟨rfl, ?_⟩; conv => arg 4; whnf)
    obtain ⟨i1, i3⟩ := mayG_nums hm
    have q1 : (put ([103] : List UInt8).length).length ≤ 10 := put_len (by unfold I64; decide)
    have q2 := put_len (n := (g.length : Int)) (by unfold I64; omega)
    refine callT (refTextT (b := [103]) (by decide)) (ClL.cons (Cl.str _) ClL.nil) (ClL.u8s _) fun s => ?_
    (conv => arg 4; whnf); repeat (refine ⟨rfl, ?_⟩; conv => arg 4; whnf)
    refine call0 (refText (b := g) (by omega)) (by (repeat' (first | with_reducible assumption | exact ClL.nil | exact Cl.int _ _ | exact Cl.bool _ | exact Cl.bl _ | exact Cl.bs _ | exact Cl.str _ | exact Cl.nils | exact Cl.nilp | exact Cl.rec _ | exact Cl.bat _ | exact Cl.recsV _ | exact Cl.strsV _ | exact Cl.intsV _ | exact Cl.req _ | exact Cl.rsp _ | exact Cl.reqA _ | exact Cl.rspA _ | exact Cl.batsV _ | exact Cl.prsV _ | exact Cl.atsV _ | exact Cl.entA _ _ | exact Cl.ent _ | exact Cl.rr _ _ | exact Cl.foundA _ | exact Cl.getB _ | exact Cl.encA _ | exact Cl.firstA _ | refine ClL.cons ?_ ?_ | refine Cl.tup ?_ | refine Cl.agg ?_ | exact ClO.RO _ _))) (Cl.bs _) ?_
    (conv => arg 4; whnf); repeat (refine ⟨rfl, ?_⟩; conv => arg 4; whnf)
    refine ⟨⟨by first | rfl | trivial, sizeOk 1 rfl ?_⟩, ?_⟩
    · simp only [List.length_append, u8s_length, List.length_cons, List.length_nil] at *; omega
    (conv => arg 4; whnf); repeat (refine ⟨rfl, ?_⟩; conv => arg 4; whnf)
    refine call0 (refPut i1) (by (repeat' (first | with_reducible assumption | exact ClL.nil | exact Cl.int _ _ | exact Cl.bool _ | exact Cl.bl _ | exact Cl.bs _ | exact Cl.str _ | exact Cl.nils | exact Cl.nilp | exact Cl.rec _ | exact Cl.bat _ | exact Cl.recsV _ | exact Cl.strsV _ | exact Cl.intsV _ | exact Cl.req _ | exact Cl.rsp _ | exact Cl.reqA _ | exact Cl.rspA _ | exact Cl.batsV _ | exact Cl.prsV _ | exact Cl.atsV _ | exact Cl.entA _ _ | exact Cl.ent _ | exact Cl.rr _ _ | exact Cl.foundA _ | exact Cl.getB _ | exact Cl.encA _ | exact Cl.firstA _ | refine ClL.cons ?_ ?_ | refine Cl.tup ?_ | refine Cl.agg ?_ | exact ClO.RO _ _))) (Cl.bs _) ?_
    (conv => arg 4; whnf); repeat (refine ⟨rfl, ?_⟩; conv => arg 4; whnf)
    rw [hm, hmt, Bool.true_and, rr_yes]
    exact ⟨by decide, Le.tup (LeL.cons (Le.agg (LeL.cons (Le.refl _ _) (LeL.cons (Le.refl _ _) (LeL.cons Le.bl (LeL.cons (Le.noneOf (by show _ = u8s (keyG g); simp only [keyG, lenB, u8s_append])) (LeL.cons Le.bl (LeL.cons (Le.refl _ _) (LeL.nil _)))))))) (LeL.cons (Le.refl _ _) (LeL.nil _))), trivial, Cl.tup (ClL.cons (Cl.rec _) (ClL.cons (Cl.int _ _) ClL.nil)) _, trivial⟩
end Go.Proofs.Ytlifbhcmihnkpaa.Cm

namespace Go.Proofs.Ytlifbhcmihnkpaa.Cm
set_option maxRecDepth 100000
set_option maxHeartbeats 80000000
open Go.Sym

section
variable {K : Type} [DecidableEq K]
def findM : List (K × Int) → K → Option Int
  | [], _ => none
  | (a, v) :: r, k => if k = a then some v else findM r k
def setM : List (K × Int) → K → Int → List (K × Int)
  | [], k, v => [(k, v)]
  | (a, x) :: r, k, v => if k = a then (a, v) :: r else (a, x) :: setM r k v
def delM : List (K × Int) → K → List (K × Int)
  | [], _ => []
  | (a, x) :: r, k => if k = a then r else (a, x) :: delM r k

/-- No key stands twice. -/
def OnceM : List (K × Int) → Prop
  | [] => True
  | (a, _) :: r => findM r a = none ∧ OnceM r

theorem find_set (k k' : K) (v : Int) : ∀ m : List (K × Int), findM (setM m k v) k' = if k' = k then some v else findM m k'
  | [] => by simp only [setM, findM]
  | (a, x) :: r => by
    simp only [setM]
    by_cases h : k = a
    · rw [if_pos h]
      subst h
      simp only [findM]
      by_cases h2 : k' = k
      · rw [if_pos h2, if_pos h2]
      · rw [if_neg h2, if_neg h2, if_neg h2]
    · rw [if_neg h]
      simp only [findM]
      by_cases h2 : k' = a
      · rw [if_pos h2, if_neg (fun e => h (by rw [← e, h2])), if_pos h2]
      · rw [if_neg h2, find_set k k' v r, if_neg h2]
theorem once_set (k : K) (v : Int) : ∀ {m : List (K × Int)}, OnceM m → OnceM (setM m k v)
  | [], _ => ⟨rfl, trivial⟩
  | (a, x) :: r, ⟨h1, h2⟩ => by
    simp only [setM]
    by_cases h : k = a
    · rw [if_pos h]; exact ⟨h1, h2⟩
    · rw [if_neg h]
      exact ⟨by rw [find_set, if_neg (fun e => h e.symm)]; exact h1, once_set k v h2⟩
theorem find_del (k k' : K) : ∀ {m : List (K × Int)}, OnceM m → findM (delM m k) k' = if k' = k then none else findM m k'
  | [], _ => by simp only [delM, findM, ite_self]
  | (a, x) :: r, ⟨h1, h2⟩ => by
    simp only [delM]
    by_cases h : k = a
    · rw [if_pos h]
      subst h
      simp only [findM]
      by_cases h3 : k' = k
      · rw [if_pos h3, h3]; exact h1
      · rw [if_neg h3, if_neg h3]
    · rw [if_neg h]
      simp only [findM]
      by_cases h3 : k' = a
      · rw [if_pos h3, if_neg (fun e => h (by rw [← e, h3])), if_pos h3]
      · rw [if_neg h3, find_del k k' h2, if_neg h3]
end

abbrev MK := List UInt8 × List UInt8 × Int
def kA (k : MK) : AV := .agg [.str k.1, .str k.2.1, .int .i64 k.2.2]
def mE (m : List (MK × Int)) : List (AV × AV) := m.map fun x => (kA x.1, .int .i64 x.2)
def fE (m : List (List UInt8 × Int)) : List (AV × AV) := m.map fun x => (.str x.1, .int .i64 x.2)

theorem keyEq_kA (a b : MK) : keyEq (kA a) (kA b) = decide (a = b) := by
  obtain ⟨a1, a2, a3⟩ := a
  obtain ⟨b1, b2, b3⟩ := b
  show (a1 == b1 && (a2 == b2 && (a3 == b3 && true))) = _
  rw [Bool.eq_iff_iff]
  simp
theorem keyEq_str (a b : List UInt8) : keyEq (.str a) (.str b) = decide (a = b) := by
  show (a == b) = _
  rw [Bool.eq_iff_iff]
  simp

theorem find_mE (k : MK) : ∀ m : List (MK × Int), findE (mE m) (kA k) = (findM m k).map (.int .i64)
  | [] => rfl
  | (a, v) :: r => by
    have ih := find_mE k r
    simp only [mE, List.map_cons, findE, findM, keyEq_kA] at ih ⊢
    by_cases h : k = a
    · simp [h]
    · simp [h, ih]
theorem set_mE (k : MK) (v : Int) : ∀ m : List (MK × Int), setE (mE m) (kA k) (.int .i64 v) = mE (setM m k v)
  | [] => rfl
  | (a, x) :: r => by
    have ih := set_mE k v r
    simp only [mE, List.map_cons, setE, setM, keyEq_kA] at ih ⊢
    by_cases h : k = a
    · simp [h]
    · simp [h, ih]
theorem del_mE (k : MK) : ∀ m : List (MK × Int), delE (mE m) (kA k) = mE (delM m k)
  | [] => rfl
  | (a, x) :: r => by
    have ih := del_mE k r
    simp only [mE, List.map_cons, delE, delM, keyEq_kA] at ih ⊢
    by_cases h : k = a
    · simp [h]
    · simp [h, ih]
theorem find_fE (k : List UInt8) : ∀ m : List (List UInt8 × Int), findE (fE m) (.str k) = (findM m k).map (.int .i64)
  | [] => rfl
  | (a, v) :: r => by
    have ih := find_fE k r
    simp only [fE, List.map_cons, findE, findM, keyEq_str] at ih ⊢
    by_cases h : k = a
    · simp [h]
    · simp [h, ih]
theorem set_fE (k : List UInt8) (v : Int) : ∀ m : List (List UInt8 × Int), setE (fE m) (.str k) (.int .i64 v) = fE (setM m k v)
  | [] => rfl
  | (a, x) :: r => by
    have ih := set_fE k v r
    simp only [fE, List.map_cons, setE, setM, keyEq_str] at ih ⊢
    by_cases h : k = a
    · simp [h]
    · simp [h, ih]
theorem del_fE (k : List UInt8) : ∀ m : List (List UInt8 × Int), delE (fE m) (.str k) = fE (delM m k)
  | [] => rfl
  | (a, x) :: r => by
    have ih := del_fE k r
    simp only [fE, List.map_cons, delE, delM, keyEq_str] at ih ⊢
    by_cases h : k = a
    · simp [h]
    · simp [h, ih]
end Go.Proofs.Ytlifbhcmihnkpaa.Cm

namespace Go.Proofs.Ytlifbhcmihnkpaa.Cm
set_option maxRecDepth 100000
set_option maxHeartbeats 80000000
open Go.Sym

/-- A table's objects: its maps, itself. -/
abbrev TH (m : List (MK × Int)) (f : List (List UInt8 × Int)) : Heap := [(2, .cells [.map 0, .map 1]), (1, .map (fE f)), (0, .map (mE m))]

theorem ren_mE (ρ : Nat → Nat) : ∀ m : List (MK × Int), renE ρ (mE m) = mE m
  | [] => rfl
  | x :: m => by
    show (ren ρ (kA x.1), ren ρ (.int .i64 x.2)) :: renE ρ (Cm.mE m) = (kA x.1, .int .i64 x.2) :: Cm.mE m
    rw [ren_mE ρ m]
    simp only [kA, ren, renL]
theorem ren_fE (ρ : Nat → Nat) : ∀ m : List (List UInt8 × Int), renE ρ (fE m) = fE m
  | [] => rfl
  | x :: m => by
    show (ren ρ (.str x.1), ren ρ (.int .i64 x.2)) :: renE ρ (Cm.fE m) = (.str x.1, .int .i64 x.2) :: Cm.fE m
    rw [ren_fE ρ m]
    simp only [ren]
theorem ClO.mE (m : List (MK × Int)) : ClO (.map (mE m)) := fun ρ => by
  simp only [renO, ren_mE]
theorem ClO.fE (m : List (List UInt8 × Int)) : ClO (.map (fE m)) := fun ρ => by
  simp only [renO, ren_fE]

/-- What the maps' operations ask. -/
theorem askM (m : List (MK × Int)) (k : MK) : mapAsk Try.prog 147 (mE m) (kA k) :=
  ⟨⟨by decide +kernel, by decide +kernel⟩, rfl, fun e he => by
    obtain ⟨x, -, rfl⟩ := List.mem_map.1 he
    rfl⟩
theorem askF (m : List (List UInt8 × Int)) (k : List UInt8) : mapAsk Try.prog 9 (fE m) (.str k) :=
  ⟨⟨by decide +kernel, by decide +kernel⟩, rfl, fun e he => by
    obtain ⟨x, -, rfl⟩ := List.mem_map.1 he
    rfl⟩
theorem look_mE (m : List (MK × Int)) (k : MK) : lookV (mE m) (kA k) (.int .i64 0) true = .tup [.int .i64 ((findM m k).getD 0), .bool (findM m k).isSome] := by
  unfold lookV
  rw [find_mE]
  cases findM m k <;> rfl
theorem look_fE (m : List (List UInt8 × Int)) (k : List UInt8) : lookV (fE m) (.str k) (.int .i64 0) false = .int .i64 ((findM m k).getD 0) := by
  unfold lookV
  rw [find_fE]
  cases findM m k <;> rfl

theorem idx_three (i j k x : Nat) : idx x [i, j, k] = bif Nat.beq i x then some 0 else bif Nat.beq j x then some 1 else bif Nat.beq k x then some 2 else none := by
  unfold idx
  cases Nat.beq i x with
  | true => rfl
  | false =>
    unfold idx
    cases Nat.beq j x with
    | true => rfl
    | false =>
      unfold idx
      cases Nat.beq k x with
      | true => rfl
      | false => rfl

theorem beq_no {i j : Nat} (h : Nat.beq i j = false) : Nat.beq j i = false := by
  rw [Bool.eq_false_iff]; intro h'; have := Nat.eq_of_beq_eq_true h'; subst this; simp at h

theorem keepH_three {nx i j k : Nat} {o0 o1 o2 q0 q1 q2 : AObj} {h0 : Heap} (g0 : get h0 0 = some o0) (g1 : get h0 1 = some o1) (g2 : get h0 2 = some o2) (hij : Nat.beq i j = false) (hik : Nat.beq i k = false) (hjk : Nat.beq j k = false)
    (e0 : renO (rho nx [i, j, k]) o0 = q0) (e1 : renO (rho nx [i, j, k]) o1 = q1) (e2 : renO (rho nx [i, j, k]) o2 = q2) : ∀ h : Heap, keepH nx [i, j, k] h0 h = updA (updA (updA h i q0) j q1) k q2
  | [] => rfl
  | (x, o) :: r => by
    rw [keepH_cons, keepH_three g0 g1 g2 hij hik hjk e0 e1 e2 r, idx_three, updA_cons]
    cases hx : Nat.beq i x with
    | true =>
      have := Nat.eq_of_beq_eq_true hx
      subst this
      simp only [cond_true]
      rw [updA_cons, beq_no hij]
      simp only [cond_false]
      rw [updA_cons, beq_no hik, g0]
      show (i, renO _ o0) :: _ = _
      rw [e0]
      rfl
    | false =>
      simp only [cond_false]
      rw [updA_cons]
      cases hy : Nat.beq j x with
      | true =>
        have := Nat.eq_of_beq_eq_true hy
        subst this
        simp only [cond_true]
        rw [updA_cons, beq_no hjk, g1]
        show (j, renO _ o1) :: _ = _
        rw [e1]
        rfl
      | false =>
        simp only [cond_false]
        rw [updA_cons]
        cases hz : Nat.beq k x with
        | true =>
          simp only [cond_true]
          rw [g2]
          have := Nat.eq_of_beq_eq_true hz
          subst this
          show (k, renO _ o2) :: _ = _
          rw [e2]
        | false => simp only [cond_false]

theorem callTab {P : Program} {Q : AExit → St → Prop} {K : AV → Heap → Nat → Prop} {g : FuncId} {args args0 : List AV} {h : Heap} {nx : Nat} {a1 a1' : AV} {kk : AV → Heap → Nat → R} {m m' : List (MK × Int)} {f f' : List (List UInt8 × Int)} (i j k : Nat)
    (c : CallOK P g args0 (TH m f) 3 (Out a1 (TH m' f') 3)) (hok : okNames nx [i, j, k] = true) (hij : Nat.beq i j = false) (hik : Nat.beq i k = false) (hjk : Nat.beq j k = false)
    (hi : get h i = some (.map (mE m))) (hj : get h j = some (.map (fE f))) (hkk : get h k = some (.cells [.map i, .map j])) (hargs : args = renL (rho nx [i, j, k]) args0) (ha : ren (rho nx [i, j, k]) a1 = a1')
    (hk : holds P Q K (withHeap (updA (updA (updA h i (.map (mE m'))) j (.map (fE f'))) k (.cells [.map i, .map j])) fun h => kk a1' h nx)) : holds P Q K (.call g args h nx kk) :=
  CallOK.frame (names := [i, j, k]) c hok ⟨⟨by simp, by exact hkk⟩, ⟨by simp, by rw [ClO.fE]; exact hj⟩, ⟨by simp, by rw [ClO.mE]; exact hi⟩, trivial⟩ hargs fun a0 h0' m' ⟨e1, e2, e3⟩ => by
    subst e1; subst e2; subst e3
    rw [ha]
    have : mergeH nx [i, j, k] h (TH m' f') = updA (updA (updA h i (.map (mE m'))) j (.map (fE f'))) k (.cells [.map i, .map j]) := by
      show newH nx [i, j, k] (keepH nx [i, j, k] (TH m' f') h) (TH m' f') = _
      rw [keepH_three rfl rfl rfl hij hik hjk (ClO.mE m' _) (ClO.fE f' _) rfl]
      rfl
    rw [this]
    rw [withHeap_eq] at hk
    exact hk

theorem cmNew : CallOK Try.prog 46 [] [] 0 (Out (.ptr 2 0) (TH [] []) 3) := by
  refine callOK Try.call46 Try.func46 Try.ntmps46 rfl ?_
  conv => arg 4; whnf
  exact ⟨rfl, rfl, rfl⟩
theorem cmNone {m : List (MK × Int)} {f : List (List UInt8 × Int)} : CallOK Try.prog 97 [.ptr 2 0] (TH m f) 3 (Out (.bl false) (TH m f) 3) := by
  refine callOK Try.call97 Try.func97 Try.ntmps97 rfl ?_
  conv => arg 4; whnf
  exact ⟨rfl, rfl, rfl⟩

theorem maxG' (a b : Int) : (if b > a then b else a) = max a b := by split <;> omega

theorem cmPut {m : List (MK × Int)} {f : List (List UInt8 × Int)} {e : Ent} (hg : e.g.length ≤ 1000000) (ht : e.t.length ≤ 1000000) : CallOK Try.prog 47 [.ptr 2 0, e.av] (TH m f) 3 (Out (.int .i64 (if mayE e then 0 else 1)) (TH (if mayE e then setM m (e.g, e.t, e.p) e.o else m) f) 3) := by
  refine CallOK.fit (by decide) ?_
  refine callOK Try.call47 Try.func47 Try.ntmps47 rfl ?_
  conv => arg 4; whnf
  refine callTab 0 1 2 (cmNone (m := m) (f := f)) rfl rfl rfl rfl rfl rfl rfl rfl rfl ?_
  (conv => arg 4; whnf); repeat (refine ⟨rfl, ?_⟩; conv => arg 4; whnf)
  refine call0 (cmMay hg ht) (by (repeat' (first | with_reducible assumption | exact ClL.nil | exact Cl.int _ _ | exact Cl.bool _ | exact Cl.bl _ | exact Cl.bs _ | exact Cl.str _ | exact Cl.nils | exact Cl.nilp | exact Cl.rec _ | exact Cl.bat _ | exact Cl.recsV _ | exact Cl.strsV _ | exact Cl.intsV _ | exact Cl.req _ | exact Cl.rsp _ | exact Cl.reqA _ | exact Cl.rspA _ | exact Cl.batsV _ | exact Cl.prsV _ | exact Cl.atsV _ | exact Cl.entA _ _ | exact Cl.ent _ | exact Cl.rr _ _ | exact Cl.foundA _ | exact Cl.getB _ | exact Cl.encA _ | exact Cl.firstA _ | refine ClL.cons ?_ ?_ | refine Cl.tup ?_ | refine Cl.agg ?_ | exact ClO.RO _ _))) (by (repeat' (first | with_reducible assumption | exact ClL.nil | exact Cl.int _ _ | exact Cl.bool _ | exact Cl.bl _ | exact Cl.bs _ | exact Cl.str _ | exact Cl.nils | exact Cl.nilp | exact Cl.rec _ | exact Cl.bat _ | exact Cl.recsV _ | exact Cl.strsV _ | exact Cl.intsV _ | exact Cl.req _ | exact Cl.rsp _ | exact Cl.reqA _ | exact Cl.rspA _ | exact Cl.batsV _ | exact Cl.prsV _ | exact Cl.atsV _ | exact Cl.entA _ _ | exact Cl.ent _ | exact Cl.rr _ _ | exact Cl.foundA _ | exact Cl.getB _ | exact Cl.encA _ | exact Cl.firstA _ | refine ClL.cons ?_ ?_ | refine Cl.tup ?_ | refine Cl.agg ?_ | exact ClO.RO _ _))) ?_
  (conv => arg 4; whnf); repeat (refine ⟨rfl, ?_⟩; conv => arg 4; whnf)
  refine ⟨fun hb => ?_, fun hb => ?_⟩
  · have hb : mayE e = false := by simpa using hb
    (conv => arg 4; whnf); repeat (refine ⟨rfl, ?_⟩; conv => arg 4; whnf)
    simp only [hb, Bool.false_eq_true, if_false]
    exact ⟨by decide, Le.refl _ _, ⟨⟨_, rfl, LeO.refl _ _⟩, ⟨_, rfl, LeO.refl _ _⟩, ⟨_, rfl, LeO.refl _ _⟩, trivial⟩, (by (repeat' (first | with_reducible assumption | exact ClL.nil | exact Cl.int _ _ | exact Cl.bool _ | exact Cl.bl _ | exact Cl.bs _ | exact Cl.str _ | exact Cl.nils | exact Cl.nilp | exact Cl.rec _ | exact Cl.bat _ | exact Cl.recsV _ | exact Cl.strsV _ | exact Cl.intsV _ | exact Cl.req _ | exact Cl.rsp _ | exact Cl.reqA _ | exact Cl.rspA _ | exact Cl.batsV _ | exact Cl.prsV _ | exact Cl.atsV _ | exact Cl.entA _ _ | exact Cl.ent _ | exact Cl.rr _ _ | exact Cl.foundA _ | exact Cl.getB _ | exact Cl.encA _ | exact Cl.firstA _ | refine ClL.cons ?_ ?_ | refine Cl.tup ?_ | refine Cl.agg ?_ | exact ClO.RO _ _)) : Cl _) _, ⟨⟨by decide, rfl⟩, ⟨by decide, ClO.fE _ _⟩, ⟨by decide, ClO.mE _ _⟩, trivial⟩⟩
  · have hb : mayE e = true := by simpa using hb
    (conv => arg 4; whnf); repeat (refine ⟨rfl, ?_⟩; conv => arg 4; whnf)
    refine ⟨askM m (e.g, e.t, e.p), ?_⟩
    (conv => arg 4; whnf); repeat (refine ⟨rfl, ?_⟩; conv => arg 4; whnf)
    simp only [hb, if_true]
    exact ⟨by decide, Le.refl _ _, ⟨⟨_, rfl, LeO.refl _ _⟩, ⟨_, rfl, LeO.refl _ _⟩, ⟨_, rfl, by rw [← set_mE]; exact LeO.refl _ _⟩, trivial⟩, (by (repeat' (first | with_reducible assumption | exact ClL.nil | exact Cl.int _ _ | exact Cl.bool _ | exact Cl.bl _ | exact Cl.bs _ | exact Cl.str _ | exact Cl.nils | exact Cl.nilp | exact Cl.rec _ | exact Cl.bat _ | exact Cl.recsV _ | exact Cl.strsV _ | exact Cl.intsV _ | exact Cl.req _ | exact Cl.rsp _ | exact Cl.reqA _ | exact Cl.rspA _ | exact Cl.batsV _ | exact Cl.prsV _ | exact Cl.atsV _ | exact Cl.entA _ _ | exact Cl.ent _ | exact Cl.rr _ _ | exact Cl.foundA _ | exact Cl.getB _ | exact Cl.encA _ | exact Cl.firstA _ | refine ClL.cons ?_ ?_ | refine Cl.tup ?_ | refine Cl.agg ?_ | exact ClO.RO _ _)) : Cl _) _, ⟨⟨by decide, rfl⟩, ⟨by decide, ClO.fE _ _⟩, ⟨by decide, ClO.mE _ _⟩, trivial⟩⟩
theorem cmGet {m : List (MK × Int)} {f : List (List UInt8 × Int)} {g t : List UInt8} {p : Int} : CallOK Try.prog 50 [.ptr 2 0, .str g, .str t, .int .i64 p] (TH m f) 3 (Out (.tup [.int .i64 ((findM m (g, t, p)).getD 0), .bool (findM m (g, t, p)).isSome]) (TH m f) 3) := by
  refine CallOK.fit (by decide) ?_
  refine callOK Try.call50 Try.func50 Try.ntmps50 rfl ?_
  conv => arg 4; whnf
  refine callTab 0 1 2 (cmNone (m := m) (f := f)) rfl rfl rfl rfl rfl rfl rfl rfl rfl ?_
  (conv => arg 4; whnf); repeat (refine ⟨rfl, ?_⟩; conv => arg 4; whnf)
  refine ⟨.tup [.int .i64 ((findM m (g, t, p)).getD 0), .bool (findM m (g, t, p)).isSome], ⟨by decide, congrArg some (look_mE m (g, t, p))⟩, ?_⟩
  conv => arg 4; whnf
  refine ⟨askM m (g, t, p), ?_⟩
  (conv => arg 4; whnf); repeat (refine ⟨rfl, ?_⟩; conv => arg 4; whnf)
  exact ⟨by decide, Le.refl _ _, ⟨⟨_, rfl, LeO.refl _ _⟩, ⟨_, rfl, LeO.refl _ _⟩, ⟨_, rfl, LeO.refl _ _⟩, trivial⟩, (by (repeat' (first | with_reducible assumption | exact ClL.nil | exact Cl.int _ _ | exact Cl.bool _ | exact Cl.bl _ | exact Cl.bs _ | exact Cl.str _ | exact Cl.nils | exact Cl.nilp | exact Cl.rec _ | exact Cl.bat _ | exact Cl.recsV _ | exact Cl.strsV _ | exact Cl.intsV _ | exact Cl.req _ | exact Cl.rsp _ | exact Cl.reqA _ | exact Cl.rspA _ | exact Cl.batsV _ | exact Cl.prsV _ | exact Cl.atsV _ | exact Cl.entA _ _ | exact Cl.ent _ | exact Cl.rr _ _ | exact Cl.foundA _ | exact Cl.getB _ | exact Cl.encA _ | exact Cl.firstA _ | refine ClL.cons ?_ ?_ | refine Cl.tup ?_ | refine Cl.agg ?_ | exact ClO.RO _ _)) : Cl _) _, ⟨⟨by decide, rfl⟩, ⟨by decide, ClO.fE _ _⟩, ⟨by decide, ClO.mE _ _⟩, trivial⟩⟩
theorem cmGen {m : List (MK × Int)} {f : List (List UInt8 × Int)} {g : List UInt8} {n : Int} (hg : g.length ≤ 1000000) : CallOK Try.prog 48 [.ptr 2 0, .str g, .int .i64 n] (TH m f) 3 (Out (.int .i64 (if mayG g n then 0 else 1)) (TH m (if mayG g n then setM f g (max ((findM f g).getD 0) n) else f)) 3) := by
  refine CallOK.fit (by decide) ?_
  refine callOK Try.call48 Try.func48 Try.ntmps48 rfl ?_
  conv => arg 4; whnf
  refine callTab 0 1 2 (cmNone (m := m) (f := f)) rfl rfl rfl rfl rfl rfl rfl rfl rfl ?_
  (conv => arg 4; whnf); repeat (refine ⟨rfl, ?_⟩; conv => arg 4; whnf)
  refine call0 (cmMayGen hg) (by (repeat' (first | with_reducible assumption | exact ClL.nil | exact Cl.int _ _ | exact Cl.bool _ | exact Cl.bl _ | exact Cl.bs _ | exact Cl.str _ | exact Cl.nils | exact Cl.nilp | exact Cl.rec _ | exact Cl.bat _ | exact Cl.recsV _ | exact Cl.strsV _ | exact Cl.intsV _ | exact Cl.req _ | exact Cl.rsp _ | exact Cl.reqA _ | exact Cl.rspA _ | exact Cl.batsV _ | exact Cl.prsV _ | exact Cl.atsV _ | exact Cl.entA _ _ | exact Cl.ent _ | exact Cl.rr _ _ | exact Cl.foundA _ | exact Cl.getB _ | exact Cl.encA _ | exact Cl.firstA _ | refine ClL.cons ?_ ?_ | refine Cl.tup ?_ | refine Cl.agg ?_ | exact ClO.RO _ _))) (by (repeat' (first | with_reducible assumption | exact ClL.nil | exact Cl.int _ _ | exact Cl.bool _ | exact Cl.bl _ | exact Cl.bs _ | exact Cl.str _ | exact Cl.nils | exact Cl.nilp | exact Cl.rec _ | exact Cl.bat _ | exact Cl.recsV _ | exact Cl.strsV _ | exact Cl.intsV _ | exact Cl.req _ | exact Cl.rsp _ | exact Cl.reqA _ | exact Cl.rspA _ | exact Cl.batsV _ | exact Cl.prsV _ | exact Cl.atsV _ | exact Cl.entA _ _ | exact Cl.ent _ | exact Cl.rr _ _ | exact Cl.foundA _ | exact Cl.getB _ | exact Cl.encA _ | exact Cl.firstA _ | refine ClL.cons ?_ ?_ | refine Cl.tup ?_ | refine Cl.agg ?_ | exact ClO.RO _ _))) ?_
  (conv => arg 4; whnf); repeat (refine ⟨rfl, ?_⟩; conv => arg 4; whnf)
  refine ⟨fun hb => ?_, fun hb => ?_⟩
  · have hb : mayG g n = false := by simpa using hb
    (conv => arg 4; whnf); repeat (refine ⟨rfl, ?_⟩; conv => arg 4; whnf)
    simp only [hb, Bool.false_eq_true, if_false]
    exact ⟨by decide, Le.refl _ _, ⟨⟨_, rfl, LeO.refl _ _⟩, ⟨_, rfl, LeO.refl _ _⟩, ⟨_, rfl, LeO.refl _ _⟩, trivial⟩, (by (repeat' (first | with_reducible assumption | exact ClL.nil | exact Cl.int _ _ | exact Cl.bool _ | exact Cl.bl _ | exact Cl.bs _ | exact Cl.str _ | exact Cl.nils | exact Cl.nilp | exact Cl.rec _ | exact Cl.bat _ | exact Cl.recsV _ | exact Cl.strsV _ | exact Cl.intsV _ | exact Cl.req _ | exact Cl.rsp _ | exact Cl.reqA _ | exact Cl.rspA _ | exact Cl.batsV _ | exact Cl.prsV _ | exact Cl.atsV _ | exact Cl.entA _ _ | exact Cl.ent _ | exact Cl.rr _ _ | exact Cl.foundA _ | exact Cl.getB _ | exact Cl.encA _ | exact Cl.firstA _ | refine ClL.cons ?_ ?_ | refine Cl.tup ?_ | refine Cl.agg ?_ | exact ClO.RO _ _)) : Cl _) _, ⟨⟨by decide, rfl⟩, ⟨by decide, ClO.fE _ _⟩, ⟨by decide, ClO.mE _ _⟩, trivial⟩⟩
  · have hb : mayG g n = true := by simpa using hb
    (conv => arg 4; whnf); repeat (refine ⟨rfl, ?_⟩; conv => arg 4; whnf)
    refine ⟨.int .i64 ((findM f g).getD 0), ⟨by decide, congrArg some (look_fE f g)⟩, ?_⟩
    conv => arg 4; whnf
    refine ⟨askF f g, ?_⟩
    (conv => arg 4; whnf); repeat (refine ⟨rfl, ?_⟩; conv => arg 4; whnf)
    refine ⟨askF f g, ?_⟩
    (conv => arg 4; whnf); repeat (refine ⟨rfl, ?_⟩; conv => arg 4; whnf)
    simp only [hb, if_true]
    exact ⟨by decide, Le.refl _ _, ⟨⟨_, rfl, LeO.refl _ _⟩, ⟨_, rfl, by rw [← set_fE, ← maxG']; exact LeO.refl _ _⟩, ⟨_, rfl, LeO.refl _ _⟩, trivial⟩, (by (repeat' (first | with_reducible assumption | exact ClL.nil | exact Cl.int _ _ | exact Cl.bool _ | exact Cl.bl _ | exact Cl.bs _ | exact Cl.str _ | exact Cl.nils | exact Cl.nilp | exact Cl.rec _ | exact Cl.bat _ | exact Cl.recsV _ | exact Cl.strsV _ | exact Cl.intsV _ | exact Cl.req _ | exact Cl.rsp _ | exact Cl.reqA _ | exact Cl.rspA _ | exact Cl.batsV _ | exact Cl.prsV _ | exact Cl.atsV _ | exact Cl.entA _ _ | exact Cl.ent _ | exact Cl.rr _ _ | exact Cl.foundA _ | exact Cl.getB _ | exact Cl.encA _ | exact Cl.firstA _ | refine ClL.cons ?_ ?_ | refine Cl.tup ?_ | refine Cl.agg ?_ | exact ClO.RO _ _)) : Cl _) _, ⟨⟨by decide, rfl⟩, ⟨by decide, ClO.fE _ _⟩, ⟨by decide, ClO.mE _ _⟩, trivial⟩⟩
theorem cmFloor {m : List (MK × Int)} {f : List (List UInt8 × Int)} {g : List UInt8} : CallOK Try.prog 51 [.ptr 2 0, .str g] (TH m f) 3 (Out (.int .i64 ((findM f g).getD 0)) (TH m f) 3) := by
  refine CallOK.fit (by decide) ?_
  refine callOK Try.call51 Try.func51 Try.ntmps51 rfl ?_
  conv => arg 4; whnf
  refine callTab 0 1 2 (cmNone (m := m) (f := f)) rfl rfl rfl rfl rfl rfl rfl rfl rfl ?_
  (conv => arg 4; whnf); repeat (refine ⟨rfl, ?_⟩; conv => arg 4; whnf)
  refine ⟨.int .i64 ((findM f g).getD 0), ⟨by decide, congrArg some (look_fE f g)⟩, ?_⟩
  conv => arg 4; whnf
  refine ⟨askF f g, ?_⟩
  (conv => arg 4; whnf); repeat (refine ⟨rfl, ?_⟩; conv => arg 4; whnf)
  exact ⟨by decide, Le.refl _ _, ⟨⟨_, rfl, LeO.refl _ _⟩, ⟨_, rfl, LeO.refl _ _⟩, ⟨_, rfl, LeO.refl _ _⟩, trivial⟩, (by (repeat' (first | with_reducible assumption | exact ClL.nil | exact Cl.int _ _ | exact Cl.bool _ | exact Cl.bl _ | exact Cl.bs _ | exact Cl.str _ | exact Cl.nils | exact Cl.nilp | exact Cl.rec _ | exact Cl.bat _ | exact Cl.recsV _ | exact Cl.strsV _ | exact Cl.intsV _ | exact Cl.req _ | exact Cl.rsp _ | exact Cl.reqA _ | exact Cl.rspA _ | exact Cl.batsV _ | exact Cl.prsV _ | exact Cl.atsV _ | exact Cl.entA _ _ | exact Cl.ent _ | exact Cl.rr _ _ | exact Cl.foundA _ | exact Cl.getB _ | exact Cl.encA _ | exact Cl.firstA _ | refine ClL.cons ?_ ?_ | refine Cl.tup ?_ | refine Cl.agg ?_ | exact ClO.RO _ _)) : Cl _) _, ⟨⟨by decide, rfl⟩, ⟨by decide, ClO.fE _ _⟩, ⟨by decide, ClO.mE _ _⟩, trivial⟩⟩
theorem cmDrop {m : List (MK × Int)} {f : List (List UInt8 × Int)} {e : Ent} : CallOK Try.prog 99 [.ptr 2 0, e.av] (TH m f) 3 (Out (.tup []) (TH (delM m (e.g, e.t, e.p)) f) 3) := by
  refine CallOK.fit (by decide) ?_
  refine callOK Try.call99 Try.func99 Try.ntmps99 rfl ?_
  conv => arg 4; whnf
  refine callTab 0 1 2 (cmNone (m := m) (f := f)) rfl rfl rfl rfl rfl rfl rfl rfl rfl ?_
  (conv => arg 4; whnf); repeat (refine ⟨rfl, ?_⟩; conv => arg 4; whnf)
  refine ⟨askM m (e.g, e.t, e.p), ?_⟩
  (conv => arg 4; whnf); repeat (refine ⟨rfl, ?_⟩; conv => arg 4; whnf)
  exact ⟨by decide, Le.refl _ _, ⟨⟨_, rfl, LeO.refl _ _⟩, ⟨_, rfl, LeO.refl _ _⟩, ⟨_, rfl, by rw [← del_mE]; exact LeO.refl _ _⟩, trivial⟩, (by (repeat' (first | with_reducible assumption | exact ClL.nil | exact Cl.int _ _ | exact Cl.bool _ | exact Cl.bl _ | exact Cl.bs _ | exact Cl.str _ | exact Cl.nils | exact Cl.nilp | exact Cl.rec _ | exact Cl.bat _ | exact Cl.recsV _ | exact Cl.strsV _ | exact Cl.intsV _ | exact Cl.req _ | exact Cl.rsp _ | exact Cl.reqA _ | exact Cl.rspA _ | exact Cl.batsV _ | exact Cl.prsV _ | exact Cl.atsV _ | exact Cl.entA _ _ | exact Cl.ent _ | exact Cl.rr _ _ | exact Cl.foundA _ | exact Cl.getB _ | exact Cl.encA _ | exact Cl.firstA _ | refine ClL.cons ?_ ?_ | refine Cl.tup ?_ | refine Cl.agg ?_ | exact ClO.RO _ _)) : Cl _) _, ⟨⟨by decide, rfl⟩, ⟨by decide, ClO.fE _ _⟩, ⟨by decide, ClO.mE _ _⟩, trivial⟩⟩
end Go.Proofs.Ytlifbhcmihnkpaa.Cm

namespace Go.Proofs.Ytlifbhcmihnkpaa.Cm
set_option maxRecDepth 100000
set_option maxHeartbeats 80000000
open Go.Sym

section
variable {K : Type} [DecidableEq K]
/-- Do two maps have the same entries? -/
def eqMp (a b : List (K × Int)) : Bool := decide (a.length = b.length) && a.all fun x => decide (findM b x.1 = some x.2)
def nzM (a : List (K × Int)) : List (K × Int) := a.filter fun x => decide (x.2 ≠ 0)

theorem findM_mem {k : K} {v : Int} : ∀ {m : List (K × Int)}, findM m k = some v → (k, v) ∈ m
  | [], h => by simp [findM] at h
  | (a, x) :: r, h => by
    simp only [findM] at h
    split at h
    · rename_i e; cases h; subst e; exact List.mem_cons_self
    · exact List.mem_cons_of_mem _ (findM_mem h)
theorem mem_findM {k : K} {v : Int} : ∀ {m : List (K × Int)}, OnceM m → (k, v) ∈ m → findM m k = some v
  | [], _, h => by cases h
  | (a, x) :: r, ⟨h1, h2⟩, h => by
    simp only [findM]
    rcases List.mem_cons.1 h with e | hm
    · cases e; rw [if_pos rfl]
    · have ih := mem_findM h2 hm
      by_cases e : k = a
      · rw [e, h1] at ih
        cases ih
      · rw [if_neg e]
        exact ih
theorem once_filter (p : K × Int → Bool) : ∀ {m : List (K × Int)}, OnceM m → OnceM (m.filter p)
  | [], _ => trivial
  | (a, x) :: r, ⟨h1, h2⟩ => by
    rw [List.filter_cons]
    split
    · refine ⟨?_, once_filter p h2⟩
      cases hf : findM (r.filter p) a with
      | none => rfl
      | some v =>
        have := List.mem_filter.1 (findM_mem hf)
        rw [mem_findM h2 this.1] at h1
        cases h1
    · exact once_filter p h2
theorem find_filter {p : K × Int → Bool} {k : K} {m : List (K × Int)} (h : OnceM m) : findM (m.filter p) k = match findM m k with | some v => if p (k, v) then some v else none | none => none := by
  cases hf : findM m k with
  | none =>
    cases hg : findM (m.filter p) k with
    | none => rfl
    | some v =>
      have := (List.mem_filter.1 (findM_mem hg)).1
      rw [mem_findM h this] at hf
      cases hf
  | some v =>
    dsimp only
    have hm := findM_mem hf
    by_cases hp : p (k, v) = true
    · rw [if_pos hp]
      exact mem_findM (once_filter p h) (List.mem_filter.2 ⟨hm, hp⟩)
    · rw [if_neg hp]
      cases hg : findM (m.filter p) k with
      | none => rfl
      | some u =>
        have := List.mem_filter.1 (findM_mem hg)
        rw [mem_findM h this.1] at hf
        cases hf
        exact absurd this.2 hp
theorem once_nodup : ∀ {m : List (K × Int)}, OnceM m → (m.map (·.1)).Nodup
  | [], _ => List.nodup_nil
  | (a, x) :: r, ⟨h1, h2⟩ => by
    rw [List.map_cons, List.nodup_cons]
    refine ⟨fun h => ?_, once_nodup h2⟩
    obtain ⟨⟨b, y⟩, hb, e⟩ := List.mem_map.1 h
    simp only at e
    subst e
    rw [mem_findM h2 hb] at h1
    cases h1
theorem nodup_len {α : Type} [DecidableEq α] : ∀ {l m : List α}, l.Nodup → (∀ x ∈ l, x ∈ m) → l.length ≤ m.length
  | [], _, _, _ => Nat.zero_le _
  | a :: l, m, h, hs => by
    rw [List.nodup_cons] at h
    have ha := hs a List.mem_cons_self
    have ih := nodup_len (m := m.erase a) h.2 fun x hx => (List.mem_erase_of_ne (fun e => h.1 (by rw [← e]; exact hx))).2 (hs x (List.mem_cons_of_mem _ hx))
    rw [List.length_erase_of_mem ha] at ih
    have := List.length_pos_of_mem ha
    simp only [List.length_cons]
    omega
/-- The same as functions: the same as maps. -/
theorem eqMp_of {a b : List (K × Int)} (ha : OnceM a) (hb : OnceM b) (h : ∀ k, findM a k = findM b k) : eqMp a b = true := by
  have hl : a.length = b.length := by
    have h1 : ∀ k ∈ a.map (·.1), k ∈ b.map (·.1) := fun k hk => by
      obtain ⟨⟨k', v⟩, hm, rfl⟩ := List.mem_map.1 hk
      have := mem_findM ha hm
      rw [h] at this
      exact List.mem_map.2 ⟨_, findM_mem this, rfl⟩
    have h2 : ∀ k ∈ b.map (·.1), k ∈ a.map (·.1) := fun k hk => by
      obtain ⟨⟨k', v⟩, hm, rfl⟩ := List.mem_map.1 hk
      have := mem_findM hb hm
      rw [← h] at this
      exact List.mem_map.2 ⟨_, findM_mem this, rfl⟩
    have l1 := nodup_len (once_nodup ha) h1
    have l2 := nodup_len (once_nodup hb) h2
    simp only [List.length_map] at l1 l2
    omega
  unfold eqMp
  rw [Bool.and_eq_true]
  refine ⟨decide_eq_true hl, ?_⟩
  rw [List.all_eq_true]
  rintro ⟨k, v⟩ hm
  rw [decide_eq_true_eq, ← h]
  exact mem_findM ha hm
end
end Go.Proofs.Ytlifbhcmihnkpaa.Cm

namespace Go.Proofs.Ytlifbhcmihnkpaa.Cm
set_option maxRecDepth 100000
set_option maxHeartbeats 80000000
open Go.Sym

abbrev MM (a b : List (AV × AV)) : Heap := [(1, .map b), (0, .map a)]
theorem mE_get {m : List (MK × Int)} {i : Nat} {kv : AV × AV} (h : (mE m)[i]? = some kv) : ∃ x, m[i]? = some x ∧ kv = (kA x.1, .int .i64 x.2) := by
  simp only [mE, List.getElem?_map] at h
  obtain ⟨x, hx, e⟩ := Option.map_eq_some_iff.1 h
  exact ⟨x, hx, e.symm⟩
theorem fE_get {m : List (List UInt8 × Int)} {i : Nat} {kv : AV × AV} (h : (fE m)[i]? = some kv) : ∃ x, m[i]? = some x ∧ kv = (.str x.1, .int .i64 x.2) := by
  simp only [fE, List.getElem?_map] at h
  obtain ⟨x, hx, e⟩ := Option.map_eq_some_iff.1 h
  exact ⟨x, hx, e.symm⟩
theorem ClO.mN (m : List (MK × Int)) (bs : List Nat) (c : Nat) : ClO (.mapN (Cm.mE m) bs c) := fun ρ => by simp only [renO, ren_mE]
theorem ClO.fN (m : List (List UInt8 × Int)) (bs : List Nat) (c : Nat) : ClO (.mapN (Cm.fE m) bs c) := fun ρ => by simp only [renO, ren_fE]

theorem rng_ok {bs : List Nat} {es : List (AV × AV)} {c : Nat} (h1 : bs.length = es.length) (h2 : ∀ n ∈ bs, n < c) : es = [] ∨ ∃ n ∈ bs, n < c := by
  cases bs with
  | nil => exact .inl (List.eq_nil_of_length_eq_zero h1.symm)
  | cons n r => exact .inr ⟨n, List.mem_cons_self, h2 n List.mem_cons_self⟩

structure EqI {K : Type} [DecidableEq K] (a b : List (K × Int)) (bs : List Nat) where
  seen : List Nat
  nd : seen.Nodup
  sub : ∀ n ∈ seen, n ∈ bs
  good : ∀ (i n : Nat) (x : K × Int), bs[i]? = some n → n ∈ seen → a[i]? = some x → findM b x.1 = some x.2
theorem EqI.len {K : Type} [DecidableEq K] {a b : List (K × Int)} {bs : List Nat} (x : EqI a b bs) : x.seen.length ≤ bs.length := nodup_len x.nd x.sub
theorem EqI.lt {K : Type} [DecidableEq K] {a b : List (K × Int)} {bs : List Nat} (x : EqI a b bs) {n : Nat} (hn : n ∈ bs) (h : n ∉ x.seen) : x.seen.length + 1 ≤ bs.length :=
  nodup_len (l := n :: x.seen) (List.nodup_cons.2 ⟨h, x.nd⟩) fun y hy => by
    rcases List.mem_cons.1 hy with rfl | hy
    · exact hn
    · exact x.sub y hy
theorem pair_inj {bs : List Nat} (h : bs.Pairwise (· < ·)) {i j n : Nat} (hi : bs[i]? = some n) (hj : bs[j]? = some n) : i = j := by
  rw [List.pairwise_iff_getElem] at h
  obtain ⟨hi1, hi2⟩ := List.getElem?_eq_some_iff.1 hi
  obtain ⟨hj1, hj2⟩ := List.getElem?_eq_some_iff.1 hj
  rcases Nat.lt_trichotomy i j with q | q | q
  · have := h i j hi1 hj1 q; omega
  · exact q
  · have := h j i hj1 hi1 q; omega
def EqI.step {K : Type} [DecidableEq K] {a b : List (K × Int)} {bs : List Nat} (h3 : bs.Pairwise (· < ·)) (y : EqI a b bs) {i n : Nat} {x : K × Int} (hi : bs[i]? = some n) (hx : a[i]? = some x) (hn : n ∉ y.seen) (hg : findM b x.1 = some x.2) : EqI a b bs :=
  ⟨n :: y.seen, List.nodup_cons.2 ⟨hn, y.nd⟩, fun m hm => by
    rcases List.mem_cons.1 hm with rfl | hm
    · exact List.mem_of_getElem? hi
    · exact y.sub m hm, fun j m z hj hm hz => by
    rcases List.mem_cons.1 hm with rfl | hm
    · have := pair_inj h3 hi hj
      subst this
      rw [hx] at hz
      cases hz
      exact hg
    · exact y.good j m z hj hm hz⟩
theorem eqMp_bad {K : Type} [DecidableEq K] {a b : List (K × Int)} {i : Nat} {x : K × Int} (hx : a[i]? = some x) (hb : findM b x.1 ≠ some x.2) : eqMp a b = false := by
  unfold eqMp
  have : (a.all fun x => decide (findM b x.1 = some x.2)) = false := List.all_eq_false.2 ⟨x, List.mem_of_getElem? hx, by simpa using hb⟩
  rw [this, Bool.and_false]
theorem EqI.all {K : Type} [DecidableEq K] {a b : List (K × Int)} {bs : List Nat} (y : EqI a b bs) (hl : a.length = b.length) (hb : bs.length = a.length) (h : ∀ n ∈ bs, n ∈ y.seen) : eqMp a b = true := by
  unfold eqMp
  rw [decide_eq_true hl, Bool.true_and, List.all_eq_true]
  intro x hx
  obtain ⟨i, hi⟩ := List.mem_iff_getElem?.1 hx
  have hlt : i < bs.length := by
    have := (List.getElem?_eq_some_iff.1 hi).1
    omega
  have hn : bs[i]? = some bs[i] := List.getElem?_eq_getElem hlt
  exact decide_eq_true (y.good i _ x hn (h _ (List.mem_of_getElem? hn)) hi)

theorem cmp_iff {v : Option Int} {n : Int} : (bif !v.isSome then true else n != v.getD 0) = true ↔ v ≠ some n := by
  cases v with
  | none => simp
  | some m => simp; exact ne_comm

theorem mapsEqM {a b : List (MK × Int)} : CallOK Try.prog 104 [.map 0, .map 1] (MM (mE a) (mE b)) 2 (Out (.bool (eqMp a b)) (MM (mE a) (mE b)) 2) := by
  refine CallOK.fit (by decide) ?_
  refine callOK Try.call104 Try.func104 Try.ntmps104 rfl ?_
  conv => arg 4; whnf
  refine ⟨fun h => ?_, fun h => ?_⟩
  · have h : a.length ≠ b.length := by simp only [mE, List.length_map, bne_iff_ne] at h; omega
    (conv => arg 4; whnf); repeat (refine ⟨rfl, ?_⟩; conv => arg 4; whnf)
    refine ⟨by decide, Le.blOf ?_, ⟨⟨_, rfl, LeO.refl _ _⟩, ⟨_, rfl, LeO.refl _ _⟩, trivial⟩, (Cl.bool _) _, ⟨⟨by decide, ClO.mE _ _⟩, ⟨by decide, ClO.mE _ _⟩, trivial⟩⟩
    unfold eqMp
    rw [decide_eq_false h]; rfl
  · have h : a.length = b.length := by simp only [mE, List.length_map, bne_eq_false_iff_eq] at h; omega
    (conv => arg 4; whnf); repeat (refine ⟨rfl, ?_⟩; conv => arg 4; whnf)
    intro bs c h1 h2 h3
    (conv => arg 4; whnf); repeat (refine ⟨rfl, ?_⟩; conv => arg 4; whnf)
    have h1 : bs.length = a.length := by simpa [mE] using h1
    refine tri_loopG (ι := EqI a b bs) (fun x => ⟨[(15, .ptr 2 0), (1, .map 1)], [(2, .iter 0 c x.seen c), (1, .map (mE b)), (0, .mapN (mE a) bs c)], 3, 34⟩) (fun x => bs.length - x.seen.length) ⟨[], List.nodup_nil, (fun n hn => by cases hn), fun i n x _ hn => by cases hn⟩ (WkG.of rfl rfl ⟨Le.refl _ _, Le.refl _ _, trivial⟩ ⟨⟨_, rfl, LeO.refl _ _⟩, ⟨_, rfl, LeO.refl _ _⟩, ⟨_, rfl, LeO.refl _ _⟩, trivial⟩ ⟨rfl, rfl, trivial⟩ ⟨⟨by decide, rfl⟩, ⟨by decide, ClO.mE _ _⟩, ⟨by decide, ClO.mN _ _ _ _⟩, trivial⟩) ?_
    intro y
    have hyl := y.len
    conv => arg 4; whnf
    refine ⟨⟨h2, ?_⟩, fun i n kv hi hkv hn => ?_, fun hall => ?_⟩
    · exact .inr (rng_ok (by rw [h1]; simp [mE]) h2)
    · obtain ⟨x, hx, rfl⟩ := mE_get hkv
      (conv => arg 4; whnf); repeat (refine ⟨rfl, ?_⟩; conv => arg 4; whnf)
      refine ⟨i, _, hi, hkv, ?_⟩
      (conv => arg 4; whnf); repeat (refine ⟨rfl, ?_⟩; conv => arg 4; whnf)
      refine ⟨.tup [.int .i64 ((findM b x.1).getD 0), .bool (findM b x.1).isSome], ⟨by decide, congrArg some (look_mE b x.1)⟩, ?_⟩
      conv => arg 4; whnf
      refine ⟨askM b x.1, ?_⟩
      (conv => arg 4; whnf); repeat (refine ⟨rfl, ?_⟩; conv => arg 4; whnf)
      have hcmp := cmp_iff (v := findM b x.1) (n := x.2)
      refine ⟨fun hb => ?_, fun hb => ?_⟩
      · have hb := hcmp.1 hb
        (conv => arg 4; whnf); repeat (refine ⟨rfl, ?_⟩; conv => arg 4; whnf)
        refine fin_ret ?_
        show holds _ _ _ _
        conv => arg 4; whnf
        refine ⟨by decide, Le.blOf (eqMp_bad hx hb).symm, ⟨⟨_, rfl, LeO.refl _ _⟩, ⟨_, rfl, rfl⟩, trivial⟩, (Cl.bool _) _, ⟨⟨by decide, ClO.mE _ _⟩, ⟨by decide, ClO.mE _ _⟩, trivial⟩⟩
      · have hb : findM b x.1 = some x.2 := Classical.byContradiction fun h' => by rw [hcmp.2 h'] at hb; cases hb
        (conv => arg 4; whnf); repeat (refine ⟨rfl, ?_⟩; conv => arg 4; whnf)
        exact ⟨y.step h3 hi hx hn hb, by show bs.length - (y.seen.length + 1) < bs.length - y.seen.length; have := y.lt (List.mem_of_getElem? hi) hn; omega, WkG.of rfl rfl ⟨Le.refl _ _, Le.refl _ _, trivial⟩ ⟨⟨_, rfl, LeO.refl _ _⟩, ⟨_, rfl, LeO.refl _ _⟩, ⟨_, rfl, LeO.refl _ _⟩, trivial⟩ ⟨rfl, rfl, trivial⟩ ⟨⟨by decide, rfl⟩, ⟨by decide, ClO.mE _ _⟩, ⟨by decide, ClO.mN _ _ _ _⟩, trivial⟩⟩
    · (conv => arg 4; whnf); repeat (refine ⟨rfl, ?_⟩; conv => arg 4; whnf)
      refine fin_exit ?_
      show holds _ _ _ _
      conv => arg 4; whnf
      refine ⟨by decide, Le.blOf (y.all h h1 hall).symm, ⟨⟨_, rfl, LeO.refl _ _⟩, ⟨_, rfl, rfl⟩, trivial⟩, (Cl.bool _) _, ⟨⟨by decide, ClO.mE _ _⟩, ⟨by decide, ClO.mE _ _⟩, trivial⟩⟩
theorem look_fE2 (m : List (List UInt8 × Int)) (k : List UInt8) : lookV (fE m) (.str k) (.int .i64 0) true = .tup [.int .i64 ((findM m k).getD 0), .bool (findM m k).isSome] := by
  unfold lookV
  rw [find_fE]
  cases findM m k <;> rfl
theorem mapsEqF {a b : List (List UInt8 × Int)} : CallOK Try.prog 105 [.map 0, .map 1] (MM (fE a) (fE b)) 2 (Out (.bool (eqMp a b)) (MM (fE a) (fE b)) 2) := by
  refine CallOK.fit (by decide) ?_
  refine callOK Try.call105 Try.func105 Try.ntmps105 rfl ?_
  conv => arg 4; whnf
  refine ⟨fun h => ?_, fun h => ?_⟩
  · have h : a.length ≠ b.length := by simp only [fE, List.length_map, bne_iff_ne] at h; omega
    (conv => arg 4; whnf); repeat (refine ⟨rfl, ?_⟩; conv => arg 4; whnf)
    refine ⟨by decide, Le.blOf ?_, ⟨⟨_, rfl, LeO.refl _ _⟩, ⟨_, rfl, LeO.refl _ _⟩, trivial⟩, (Cl.bool _) _, ⟨⟨by decide, ClO.fE _ _⟩, ⟨by decide, ClO.fE _ _⟩, trivial⟩⟩
    unfold eqMp
    rw [decide_eq_false h]; rfl
  · have h : a.length = b.length := by simp only [fE, List.length_map, bne_eq_false_iff_eq] at h; omega
    (conv => arg 4; whnf); repeat (refine ⟨rfl, ?_⟩; conv => arg 4; whnf)
    intro bs c h1 h2 h3
    (conv => arg 4; whnf); repeat (refine ⟨rfl, ?_⟩; conv => arg 4; whnf)
    have h1 : bs.length = a.length := by simpa [fE] using h1
    refine tri_loopG (ι := EqI a b bs) (fun x => ⟨[(15, .ptr 2 0), (1, .map 1)], [(2, .iter 0 c x.seen c), (1, .map (fE b)), (0, .mapN (fE a) bs c)], 3, 34⟩) (fun x => bs.length - x.seen.length) ⟨[], List.nodup_nil, (fun n hn => by cases hn), fun i n x _ hn => by cases hn⟩ (WkG.of rfl rfl ⟨Le.refl _ _, Le.refl _ _, trivial⟩ ⟨⟨_, rfl, LeO.refl _ _⟩, ⟨_, rfl, LeO.refl _ _⟩, ⟨_, rfl, LeO.refl _ _⟩, trivial⟩ ⟨rfl, rfl, trivial⟩ ⟨⟨by decide, rfl⟩, ⟨by decide, ClO.fE _ _⟩, ⟨by decide, ClO.fN _ _ _ _⟩, trivial⟩) ?_
    intro y
    have hyl := y.len
    conv => arg 4; whnf
    refine ⟨⟨h2, ?_⟩, fun i n kv hi hkv hn => ?_, fun hall => ?_⟩
    · exact .inr (rng_ok (by rw [h1]; simp [fE]) h2)
    · obtain ⟨x, hx, rfl⟩ := fE_get hkv
      (conv => arg 4; whnf); repeat (refine ⟨rfl, ?_⟩; conv => arg 4; whnf)
      refine ⟨i, _, hi, hkv, ?_⟩
      (conv => arg 4; whnf); repeat (refine ⟨rfl, ?_⟩; conv => arg 4; whnf)
      refine ⟨.tup [.int .i64 ((findM b x.1).getD 0), .bool (findM b x.1).isSome], ⟨by decide, congrArg some (look_fE2 b x.1)⟩, ?_⟩
      conv => arg 4; whnf
      refine ⟨askF b x.1, ?_⟩
      (conv => arg 4; whnf); repeat (refine ⟨rfl, ?_⟩; conv => arg 4; whnf)
      have hcmp := cmp_iff (v := findM b x.1) (n := x.2)
      refine ⟨fun hb => ?_, fun hb => ?_⟩
      · have hb := hcmp.1 hb
        (conv => arg 4; whnf); repeat (refine ⟨rfl, ?_⟩; conv => arg 4; whnf)
        refine fin_ret ?_
        show holds _ _ _ _
        conv => arg 4; whnf
        refine ⟨by decide, Le.blOf (eqMp_bad hx hb).symm, ⟨⟨_, rfl, LeO.refl _ _⟩, ⟨_, rfl, rfl⟩, trivial⟩, (Cl.bool _) _, ⟨⟨by decide, ClO.fE _ _⟩, ⟨by decide, ClO.fE _ _⟩, trivial⟩⟩
      · have hb : findM b x.1 = some x.2 := Classical.byContradiction fun h' => by rw [hcmp.2 h'] at hb; cases hb
        (conv => arg 4; whnf); repeat (refine ⟨rfl, ?_⟩; conv => arg 4; whnf)
        exact ⟨y.step h3 hi hx hn hb, by show bs.length - (y.seen.length + 1) < bs.length - y.seen.length; have := y.lt (List.mem_of_getElem? hi) hn; omega, WkG.of rfl rfl ⟨Le.refl _ _, Le.refl _ _, trivial⟩ ⟨⟨_, rfl, LeO.refl _ _⟩, ⟨_, rfl, LeO.refl _ _⟩, ⟨_, rfl, LeO.refl _ _⟩, trivial⟩ ⟨rfl, rfl, trivial⟩ ⟨⟨by decide, rfl⟩, ⟨by decide, ClO.fE _ _⟩, ⟨by decide, ClO.fN _ _ _ _⟩, trivial⟩⟩
    · (conv => arg 4; whnf); repeat (refine ⟨rfl, ?_⟩; conv => arg 4; whnf)
      refine fin_exit ?_
      show holds _ _ _ _
      conv => arg 4; whnf
      refine ⟨by decide, Le.blOf (y.all h h1 hall).symm, ⟨⟨_, rfl, LeO.refl _ _⟩, ⟨_, rfl, rfl⟩, trivial⟩, (Cl.bool _) _, ⟨⟨by decide, ClO.fE _ _⟩, ⟨by decide, ClO.fE _ _⟩, trivial⟩⟩
end Go.Proofs.Ytlifbhcmihnkpaa.Cm
