/-
  Slices that may be appended to: what was put, copied, written at last.
-/
import Derived.Test.YthclmkhkchbpiaaTxt1
import Derived.Test.YthclmkhkchbpiaaSym6
import Derived.Test.YthclmkhkchbpiaaTxt2
import Derived.Shelf.Spec.SlicesGrow
set_option linter.unusedVariables false
set_option linter.unusedSimpArgs false
namespace Go.Proofs.Ythclmkhkchbpiaa
set_option maxRecDepth 100000
set_option maxHeartbeats 80000000
open Go.Sym

theorem refFixedF' {n size : Int} (hn : I64 n) (hf : Fits n size) :
    CallOK Try.prog 71 [.int .i64 n, .int .i64 size] [] 0 (Out (.sl .full 0 (u8s (fixed n.toNat size.toNat))) [] 0) := by
  obtain ⟨h1, h2, h3, h4⟩ := hf
  obtain ⟨m, rfl⟩ : ∃ m : Nat, n = m := ⟨n.toNat, by omega⟩
  obtain ⟨k, rfl⟩ : ∃ k : Nat, size = k := ⟨size.toNat, by omega⟩
  exact refFixedF hn (by omega)

theorem refBytes {b : List UInt8} (hl : b.length ≤ 1000000000) :
    CallOK Try.prog 105 [.sl .none 0 (u8s b)] [] 0 (Out (.sl .none 0 (u8s (put b.length ++ b))) [] 0) := by
  have hn : I64 (b.length : Int) := by unfold I64; omega
  have hp := put_len hn
  refine CallOK.none ?_ (ClL.u8s _)
  refine callOK Try.call105 Try.func105 Try.ntmps105 rfl ?_
  conv => arg 4; whnf
  rw [u8s_length]
  refine callT (refPutT hn) (ClL.cons (Cl.int _ _) ClL.nil) (ClL.u8s _) fun s => ?_
  conv => arg 4; whnf
  refine ⟨⟨by first | rfl | trivial, sizeOk 1 rfl ?_⟩, ?_⟩
  · simp [u8s_length]; omega
  conv => arg 4; whnf
  refine ⟨s + 1, ?_, rfl, rfl⟩
  rw [← u8s_append]

theorem cloneT {l : List UInt8} (hl : l.length ≤ 100000000000000) :
    CallOK Try.prog 74 [.sl .none 0 (u8s l)] [] 0 (NewSl 0 (u8s l)) := by
  suffices hs : CallOK Try.prog 74 [.sl .none 0 (u8s l)] [] 0 (fun a h m => Out (.nils) [] 0 a h m ∧ l = [] ∨ Out (.sl (.tok 0 0) 0 (u8s l)) [(0, .tip 0)] 1 a h m) from
    hs.ghost fun a h m ho => by
      rcases ho with ⟨⟨e1, e2, e3⟩, rfl⟩ | ⟨e1, e2, e3⟩ <;> subst e1 <;> subst e2 <;> subst e3
      · exact ⟨_, [(0, .tip 0)], 1, by omega, (Gh.token 0 _ [] 0).trans (Gh.le (fun _ => Le.nilsTok rfl) (fun id o hg => ⟨o, hg, LeO.refl _ _⟩)), 0, rfl, rfl, rfl⟩
      · exact ⟨_, [(0, .tip 0)], 1, by omega, .refl _ _ _ _, 0, rfl, rfl, rfl⟩
  refine callOK Try.call74 Try.func74 Try.ntmps74 rfl ?_
  conv => arg 4; whnf
  intro b hb
  cases b with
  | true =>
    have hb := hb rfl
    refine ⟨fun _ => ?_, fun h => (by cases h)⟩
    conv => arg 4; whnf
    refine .inl ⟨⟨rfl, rfl, rfl⟩, by cases l <;> simp_all [u8s]⟩
  | false =>
    refine ⟨fun h => (by cases h), fun _ => ?_⟩
    conv => arg 4; whnf
    refine ⟨sizeOk 1 rfl ?_, ?_⟩
    · simp [u8s_length]; omega
    refine Or.inl ?_
    conv => arg 4; whnf
    exact .inr ⟨rfl, rfl, rfl⟩

theorem wDoneT {l : List UInt8} {s : Nat} (hl : l.length ≤ 100000000000000) :
    CallOK Try.prog 21 [.ptr 0 0] (WH l s false) 2 (fun a h m => ∃ s2, Out (.tup [.sl (.tok 2 s2) 0 (u8s l), .bl true]) ((2, .tip s2) :: WH l s false) 3 a h m) := by
  refine callOK Try.call21 Try.func21 Try.ntmps21 rfl ?_
  conv => arg 4; whnf
  refine ⟨fun h => (by cases h), fun _ => ?_⟩
  conv => arg 4; whnf
  refine holds_args (args' := [.sl .none 0 (u8s l)]) ⟨Le.none, trivial⟩ (callT (cloneT hl) (ClL.cons (Cl.bs _) ClL.nil) (ClL.u8s _) fun s2 => ?_)
  conv => arg 4; whnf
  exact ⟨s2, rfl, rfl, rfl⟩

/-- A number that fits is written. -/
theorem wFixedT {n size : Int} (hn : I64 n) (hf : Fits n size) {l : List UInt8} {s : Nat} (hl : l.length ≤ 100000000000000) :
    CallOK Try.prog 69 [.ptr 0 0, .int .i64 n, .int .i64 size] (WH l s false) 2 (fun a h m => ∃ s', Out (.ptr 0 0) (WH (l ++ fixed n.toNat size.toNat) s' false) 2 a h m) :=
  (wFixed hn (by unfold I64; have := hf.2.1; have := hf.2.2.1; omega) hl).mono fun a h m ho => by
    rcases ho with ⟨_, s', e⟩ | ⟨hb, _⟩
    · exact ⟨s', e⟩
    · exact absurd hf hb
end Go.Proofs.Ythclmkhkchbpiaa

namespace Go.Proofs.Ythclmkhkchbpiaa
set_option maxRecDepth 100000
set_option maxHeartbeats 80000000
open Go.Sym

/-- Bytes that may be wanting. -/
def opt (has : Bool) (l : List UInt8) : List UInt8 := if has then put l.length ++ l else put (-1)
def lenB (l : List UInt8) : List UInt8 := put l.length ++ l
def Rec.body (r : Rec) (first base : Int) : List UInt8 := put (r.time - first) ++ put (r.off - base) ++ opt r.hk r.key ++ opt r.hv r.val
def Bat.first (b : Bat) : Int := match b.recs with
  | [] => 0
  | r :: _ => r.time
def recsB (l : List Rec) (first base : Int) : List UInt8 := (l.map fun r => lenB (r.body first base)).flatten
def Bat.head (b : Bat) : List UInt8 := fixed (b.last - b.base).toNat 8 ++ fixed b.first.toNat 8 ++ fixed b.prod.toNat 8 ++ fixed b.epoch.toNat 2 ++ fixed b.seq.toNat 4 ++ fixed b.recs.length 4
def Bat.rest (b : Bat) : List UInt8 := b.head ++ recsB b.recs b.first b.base
def Bat.enc (b : Bat) : List UInt8 := fixed b.base.toNat 8 ++ fixed (b.rest.length + 4) 4 ++ fixed (crcSum b.rest) 4 ++ b.rest

def HeadBad (b : Bat) : Prop :=
  b.base < 0 ∨ 4611686018427387904 < b.base ∨ b.last < b.base ∨ 4611686018427387904 < b.last ∨ b.prod < 0 ∨ 1099511627776 < b.prod ∨ b.epoch < 0 ∨ 32767 < b.epoch ∨ b.seq < 0 ∨ 2147483647 < b.seq ∨ b.prod = 0 ∧ (b.epoch ≠ 0 ∨ b.seq ≠ 0)
/-- A record that can be written. -/
def Rec.fine (r : Rec) (b : Bat) : Prop := b.base ≤ r.off ∧ r.off ≤ b.last ∧ 0 ≤ r.time ∧ r.time ≤ 1125899906842624 ∧ r.key.length ≤ 200 ∧ r.val.length ≤ 2000
structure Bat.fine (b : Bat) : Prop where
  head : ¬ HeadBad b
  few : b.recs.length ≤ 100
  recs : ∀ r ∈ b.recs, r.fine b

theorem opt_len {has : Bool} {l : List UInt8} (h : l.length ≤ 1000000000) : (opt has l).length ≤ l.length + 10 := by
  unfold opt
  split
  · have := put_len (n := l.length) (by unfold I64; omega)
    rw [List.length_append]; omega
  · have := put_len (n := -1) (by unfold I64; omega)
    omega
theorem first_time {b : Bat} (hb : b.fine) : 0 ≤ b.first ∧ b.first ≤ 1125899906842624 := by
  unfold Bat.first
  split
  · omega
  · rename_i r l he
    have := hb.recs r (by rw [he]; exact List.mem_cons_self)
    unfold Rec.fine at this
    omega
theorem body_len {r : Rec} {b : Bat} (hb : b.fine) (hr : r.fine b) : (r.body b.first b.base).length ≤ r.key.length + r.val.length + 40 := by
  have h1 := first_time hb
  have hh := hb.head
  unfold HeadBad at hh
  unfold Rec.fine at hr
  have p1 := put_len (n := r.time - b.first) (by unfold I64; omega)
  have p2 := put_len (n := r.off - b.base) (by unfold I64; omega)
  have o1 := opt_len (has := r.hk) (l := r.key) (by omega)
  have o2 := opt_len (has := r.hv) (l := r.val) (by omega)
  unfold Rec.body
  simp only [List.length_append]
  omega
theorem recsB_len {b : Bat} (hb : b.fine) : ∀ l : List Rec, (∀ r ∈ l, r.fine b) → (recsB l b.first b.base).length ≤ 2250 * l.length
  | [], _ => by simp [recsB]
  | r :: l, h => by
    have ih := recsB_len hb l fun r hr => h r (List.mem_cons_of_mem _ hr)
    have hr := h r List.mem_cons_self
    have h1 := body_len hb hr
    have hr' := hr
    unfold Rec.fine at hr'
    have hp := put_len (n := (r.body b.first b.base).length) (by unfold I64; omega)
    show (lenB (r.body b.first b.base) ++ recsB l b.first b.base).length ≤ _
    simp only [List.length_append, List.length_cons, lenB]
    omega
theorem head_len (b : Bat) : b.head.length = 34 := by
  simp only [Bat.head, List.length_append, fixed_len]
theorem rest_len {b : Bat} (hb : b.fine) : b.rest.length ≤ 225034 := by
  have h1 := head_len b
  have h2 := recsB_len hb b.recs hb.recs
  have h3 := hb.few
  unfold Bat.rest
  rw [List.length_append]
  omega
theorem batE_len {b : Bat} : b.enc.length = 16 + b.rest.length := by
  simp only [Bat.enc, List.length_append, fixed_len]
theorem crcSum_range (l : List UInt8) : crcSum l < 4294967296 := by
  unfold crcSum
  exact (~~~ (crcMore (~~~ 0#32) l)).isLt
theorem opt_yes {l : List UInt8} : opt true l = put l.length ++ l := rfl
theorem opt_no {l : List UInt8} : opt false l = put (-1) := rfl

theorem refBody {r : Rec} {b : Bat} {x : Int} (hx : x = b.first) (hb : b.fine) (hr : r.fine b) : CallOK Try.prog 106 [r.av, .int .i64 x, .int .i64 b.base] [] 0 (Out (bs (r.body b.first b.base)) [] 0) := by
  subst hx
  have h1 := first_time hb
  have hh := hb.head
  unfold HeadBad at hh
  have hr' := hr
  unfold Rec.fine at hr'
  have n1 : I64 (r.time - b.first) := by unfold I64; omega
  have n2 : I64 (r.off - b.base) := by unfold I64; omega
  have n3 : I64 (-1) := by unfold I64; omega
  have p1 := put_len n1
  have p2 := put_len n2
  have p3 := put_len n3
  have k1 := put_len (n := r.key.length) (by unfold I64; omega)
  have k2 := put_len (n := r.val.length) (by unfold I64; omega)
  have e1 : IntKind.i64.wrap (r.time - b.first) = r.time - b.first := by rw [IntKind.wrap_i64]; omega
  have e2 : IntKind.i64.wrap (r.off - b.base) = r.off - b.base := by rw [IntKind.wrap_i64]; omega
  refine CallOK.fit (by decide) ?_
  refine callOK Try.call106 Try.func106 Try.ntmps106 rfl ?_
  conv => arg 4; whnf
  rw [e1]
  refine callT (refPutT n1) (ClL.cons (Cl.int _ _) ClL.nil) (ClL.u8s _) fun s => ?_
  conv => arg 4; whnf
  refine ⟨rfl, ?_⟩
  conv => arg 4; whnf
  rw [e2]
  refine call0 (refPut n2) (ClL.cons (Cl.int _ _) ClL.nil) (Cl.bs _) ?_
  conv => arg 4; whnf
  refine ⟨⟨by first | rfl | trivial, sizeOk 1 rfl ?_⟩, ?_⟩
  · simp [u8s_length]; omega
  conv => arg 4; whnf
  refine ⟨fun hk => ?_, fun hk => ?_⟩
  · conv => arg 4; whnf
    refine call0 (refBytes (b := r.key) (by omega)) (ClL.cons (Cl.bs _) ClL.nil) (Cl.bs _) ?_
    conv => arg 4; whnf
    refine ⟨⟨by first | rfl | trivial, sizeOk 1 rfl ?_⟩, ?_⟩
    · simp [u8s_length]; omega
    conv => arg 4; whnf
    refine ⟨fun hv => ?_, fun hv => ?_⟩
    · conv => arg 4; whnf
      refine call0 (refBytes (b := r.val) (by omega)) (ClL.cons (Cl.bs _) ClL.nil) (Cl.bs _) ?_
      conv => arg 4; whnf
      refine ⟨⟨by first | rfl | trivial, sizeOk 1 rfl ?_⟩, ?_⟩
      · simp [u8s_length]; omega
      conv => arg 4; whnf
      refine ⟨by decide, Le.noneOf ?_, trivial, (Cl.bs _) _, trivial⟩
      simp only [Rec.body, hk, hv, opt_yes, u8s_append]
    · conv => arg 4; whnf
      refine call0 (refPut n3) (ClL.cons (Cl.int _ _) ClL.nil) (Cl.bs _) ?_
      conv => arg 4; whnf
      refine ⟨⟨by first | rfl | trivial, sizeOk 1 rfl ?_⟩, ?_⟩
      · simp [u8s_length]; omega
      conv => arg 4; whnf
      refine ⟨by decide, Le.noneOf ?_, trivial, (Cl.bs _) _, trivial⟩
      simp only [Rec.body, hk, hv, opt_yes, opt_no, u8s_append]
  · conv => arg 4; whnf
    refine call0 (refPut n3) (ClL.cons (Cl.int _ _) ClL.nil) (Cl.bs _) ?_
    conv => arg 4; whnf
    refine ⟨⟨by first | rfl | trivial, sizeOk 1 rfl ?_⟩, ?_⟩
    · simp [u8s_length]; omega
    conv => arg 4; whnf
    refine ⟨fun hv => ?_, fun hv => ?_⟩
    · conv => arg 4; whnf
      refine call0 (refBytes (b := r.val) (by omega)) (ClL.cons (Cl.bs _) ClL.nil) (Cl.bs _) ?_
      conv => arg 4; whnf
      refine ⟨⟨by first | rfl | trivial, sizeOk 1 rfl ?_⟩, ?_⟩
      · simp [u8s_length]; omega
      conv => arg 4; whnf
      refine ⟨by decide, Le.noneOf ?_, trivial, (Cl.bs _) _, trivial⟩
      simp only [Rec.body, hk, hv, opt_yes, opt_no, u8s_append]
    · conv => arg 4; whnf
      refine call0 (refPut n3) (ClL.cons (Cl.int _ _) ClL.nil) (Cl.bs _) ?_
      conv => arg 4; whnf
      refine ⟨⟨by first | rfl | trivial, sizeOk 1 rfl ?_⟩, ?_⟩
      · simp [u8s_length]; omega
      conv => arg 4; whnf
      refine ⟨by decide, Le.noneOf ?_, trivial, (Cl.bs _) _, trivial⟩
      simp only [Rec.body, hk, hv, opt_no, u8s_append]
end Go.Proofs.Ythclmkhkchbpiaa

namespace Go.Proofs.Ythclmkhkchbpiaa
set_option maxRecDepth 100000
set_option maxHeartbeats 80000000
open Go.Sym

theorem recs_take {l : List Rec} {i : Nat} {x : Rec} {first base : Int} (h : l[i]? = some x) : recsB (l.take (i + 1)) first base = recsB (l.take i) first base ++ lenB (x.body first base) := by
  unfold recsB
  rw [List.take_add_one, h]
  simp
theorem recs_take_len {b : Bat} (hb : b.fine) (i : Nat) : (recsB (b.recs.take i) b.first b.base).length ≤ 225000 := by
  have h := recsB_len hb (b.recs.take i) fun r hr => hb.recs r (List.mem_of_mem_take hr)
  have := hb.few
  have : (b.recs.take i).length ≤ b.recs.length := by simp; omega
  omega

theorem fits8 {n : Int} (h : 0 ≤ n) : Fits n 8 := ⟨h, by decide, by decide, fun h => by omega⟩
theorem fits2 {n : Int} (h : 0 ≤ n) (k : n < 65536) : Fits n 2 := ⟨h, by decide, by decide, fun _ => k⟩
theorem fits4 {n : Int} (h : 0 ≤ n) (k : n < 4294967296) : Fits n 4 := ⟨h, by decide, by decide, fun _ => k⟩

def batO (b : Bat) : AObj := .cells [.int .i64 b.base, .int .i64 b.last, .int .i64 b.prod, .int .i64 b.epoch, .int .i64 b.seq, recsV b.recs]
theorem renO_batO (ρ : Nat → Nat) (b : Bat) : renO ρ (batO b) = batO b := by
  simp only [batO, renO, renL, ren, ren_recs, renP]
theorem Cl.bsT {n nx t s : Nat} (h : t < n) (l : List UInt8) : ren (cut n nx) (.sl (.tok t s) 0 (u8s l)) = .sl (.tok t s) 0 (u8s l) := cut_ok (by simp only [renP, cut_lt h])

structure EnI (b : Bat) where
  i : Nat
  s : Nat
  hi : i ≤ b.recs.length

theorem refEncode {b : Bat} (hb : b.fine) : CallOK Try.prog 87 [b.av] [] 0 (Out (bs b.enc) [] 0) := by
  have h1 := first_time hb
  have hh := hb.head
  unfold HeadBad at hh
  have hf := hb.few
  have w1 : IntKind.i64.wrap (b.last - b.base) = b.last - b.base := by rw [IntKind.wrap_i64]; omega
  refine CallOK.fit (by decide) ?_
  refine callOK Try.call87 Try.func87 Try.ntmps87 rfl ?_
  conv => arg 4; whnf
  refine ⟨fun h => ?_, fun h => ?_⟩
  case' refine_1 =>
    obtain ⟨r, l, hr⟩ : ∃ r l, b.recs = r :: l := by
      cases hr : b.recs with
      | nil => simp [hr, recsL] at h
      | cons r l => exact ⟨r, l, rfl⟩
    have hx : r.time = b.first := by simp [Bat.first, hr]
    conv => arg 4; whnf
    refine ⟨r.av, ⟨by decide, by rw [hr]; rfl⟩, ?_⟩
    (conv => arg 4; whnf); repeat (refine ⟨rfl, ?_⟩; conv => arg 4; whnf)
    rw [w1]
    refine call0 (refFixedF' (n := b.last - b.base) (size := 8) (by unfold I64; omega) (fits8 (by omega))) (ClL.cons (Cl.int _ _) (ClL.cons (Cl.int _ _) ClL.nil)) (Cl.slFull (ClL.u8s _)) ?_
    (conv => arg 4; whnf); repeat (refine ⟨rfl, ?_⟩; conv => arg 4; whnf)
    refine call0 (refFixed' (n := _) (size := 8) (by unfold I64; omega) (fits8 (by omega))) (ClL.cons (Cl.int _ _) (ClL.cons (Cl.int _ _) ClL.nil)) (Cl.bs _) ?_
    (conv => arg 4; whnf); repeat (refine ⟨rfl, ?_⟩; conv => arg 4; whnf)
    refine ⟨sizeOk 1 rfl ?_, ?_⟩
    · simp [u8s_length, fixed_len]
    (conv => arg 4; whnf); repeat (refine ⟨rfl, ?_⟩; conv => arg 4; whnf)
    refine call0 (refFixed' (n := b.prod) (size := 8) (by unfold I64; omega) (fits8 (by omega))) (ClL.cons (Cl.int _ _) (ClL.cons (Cl.int _ _) ClL.nil)) (Cl.bs _) ?_
    (conv => arg 4; whnf); repeat (refine ⟨rfl, ?_⟩; conv => arg 4; whnf)
    refine ⟨⟨by first | rfl | trivial, sizeOk 1 rfl ?_⟩, ?_⟩
    · simp [u8s_length, fixed_len]
    (conv => arg 4; whnf); repeat (refine ⟨rfl, ?_⟩; conv => arg 4; whnf)
    refine call0 (refFixed' (n := b.epoch) (size := 2) (by unfold I64; omega) (fits2 (by omega) (by omega))) (ClL.cons (Cl.int _ _) (ClL.cons (Cl.int _ _) ClL.nil)) (Cl.bs _) ?_
    (conv => arg 4; whnf); repeat (refine ⟨rfl, ?_⟩; conv => arg 4; whnf)
    refine ⟨⟨by first | rfl | trivial, sizeOk 1 rfl ?_⟩, ?_⟩
    · simp [u8s_length, fixed_len]
    (conv => arg 4; whnf); repeat (refine ⟨rfl, ?_⟩; conv => arg 4; whnf)
    refine call0 (refFixed' (n := b.seq) (size := 4) (by unfold I64; omega) (fits4 (by omega) (by omega))) (ClL.cons (Cl.int _ _) (ClL.cons (Cl.int _ _) ClL.nil)) (Cl.bs _) ?_
    (conv => arg 4; whnf); repeat (refine ⟨rfl, ?_⟩; conv => arg 4; whnf)
    refine ⟨⟨by first | rfl | trivial, sizeOk 1 rfl ?_⟩, ?_⟩
    · simp [u8s_length, fixed_len]
    (conv => arg 4; whnf); repeat (refine ⟨rfl, ?_⟩; conv => arg 4; whnf)
    rw [recs_length]
    refine call0 (refFixed' (n := b.recs.length) (size := 4) (by unfold I64; omega) (fits4 (by omega) (by omega))) (ClL.cons (Cl.int _ _) (ClL.cons (Cl.int _ _) ClL.nil)) (Cl.bs _) ?_
    (conv => arg 4; whnf); repeat (refine ⟨rfl, ?_⟩; conv => arg 4; whnf)
    refine ⟨⟨by first | rfl | trivial, sizeOk 1 rfl ?_⟩, ?_⟩
    · simp [u8s_length, fixed_len]
    (conv => arg 4; whnf); repeat (refine ⟨rfl, ?_⟩; conv => arg 4; whnf)
    refine tri_loopG (ι := EnI b) (fun a => ⟨[(5, .int .i64 a.i), (4, .sl (.tok 1 a.s) 0 (u8s (b.head ++ recsB (b.recs.take a.i) b.first b.base))), (3, .int .i64 b.first), (1, .ptr 0 0)], [(1, .tip a.s), (0, batO b)], 2, 78⟩) (fun a => b.recs.length - a.i) ⟨0, 4, Nat.zero_le _⟩ (WkG.of rfl rfl ⟨Le.refl _ _, Le.of_eq ?_, Le.of_eq (congrArg _ hx), Le.refl _ _, trivial⟩ ⟨⟨_, rfl, LeO.refl _ _⟩, ⟨_, rfl, LeO.refl _ _⟩, trivial⟩ ⟨rfl, Cl.bsT (by decide) _, rfl, rfl, trivial⟩ ⟨⟨by decide, rfl⟩, ⟨by decide, renO_batO _ _⟩, trivial⟩) ?_
    · conv => lhs; whnf
      simp only [Bat.head, u8s_append, hx, recsB, List.take_zero, List.map_nil, List.flatten_nil, List.append_nil]
      rfl

  case' refine_2 =>
    have hx : 0 = b.first := by
      cases hr : b.recs with
      | nil => simp [Bat.first, hr]
      | cons r l => simp [hr, recsL] at h
    (conv => arg 4; whnf); repeat (refine ⟨rfl, ?_⟩; conv => arg 4; whnf)
    rw [w1]
    refine call0 (refFixedF' (n := b.last - b.base) (size := 8) (by unfold I64; omega) (fits8 (by omega))) (ClL.cons (Cl.int _ _) (ClL.cons (Cl.int _ _) ClL.nil)) (Cl.slFull (ClL.u8s _)) ?_
    (conv => arg 4; whnf); repeat (refine ⟨rfl, ?_⟩; conv => arg 4; whnf)
    refine call0 (refFixed' (n := _) (size := 8) (by unfold I64; omega) (fits8 (by omega))) (ClL.cons (Cl.int _ _) (ClL.cons (Cl.int _ _) ClL.nil)) (Cl.bs _) ?_
    (conv => arg 4; whnf); repeat (refine ⟨rfl, ?_⟩; conv => arg 4; whnf)
    refine ⟨sizeOk 1 rfl ?_, ?_⟩
    · simp [u8s_length, fixed_len]
    (conv => arg 4; whnf); repeat (refine ⟨rfl, ?_⟩; conv => arg 4; whnf)
    refine call0 (refFixed' (n := b.prod) (size := 8) (by unfold I64; omega) (fits8 (by omega))) (ClL.cons (Cl.int _ _) (ClL.cons (Cl.int _ _) ClL.nil)) (Cl.bs _) ?_
    (conv => arg 4; whnf); repeat (refine ⟨rfl, ?_⟩; conv => arg 4; whnf)
    refine ⟨⟨by first | rfl | trivial, sizeOk 1 rfl ?_⟩, ?_⟩
    · simp [u8s_length, fixed_len]
    (conv => arg 4; whnf); repeat (refine ⟨rfl, ?_⟩; conv => arg 4; whnf)
    refine call0 (refFixed' (n := b.epoch) (size := 2) (by unfold I64; omega) (fits2 (by omega) (by omega))) (ClL.cons (Cl.int _ _) (ClL.cons (Cl.int _ _) ClL.nil)) (Cl.bs _) ?_
    (conv => arg 4; whnf); repeat (refine ⟨rfl, ?_⟩; conv => arg 4; whnf)
    refine ⟨⟨by first | rfl | trivial, sizeOk 1 rfl ?_⟩, ?_⟩
    · simp [u8s_length, fixed_len]
    (conv => arg 4; whnf); repeat (refine ⟨rfl, ?_⟩; conv => arg 4; whnf)
    refine call0 (refFixed' (n := b.seq) (size := 4) (by unfold I64; omega) (fits4 (by omega) (by omega))) (ClL.cons (Cl.int _ _) (ClL.cons (Cl.int _ _) ClL.nil)) (Cl.bs _) ?_
    (conv => arg 4; whnf); repeat (refine ⟨rfl, ?_⟩; conv => arg 4; whnf)
    refine ⟨⟨by first | rfl | trivial, sizeOk 1 rfl ?_⟩, ?_⟩
    · simp [u8s_length, fixed_len]
    (conv => arg 4; whnf); repeat (refine ⟨rfl, ?_⟩; conv => arg 4; whnf)
    rw [recs_length]
    refine call0 (refFixed' (n := b.recs.length) (size := 4) (by unfold I64; omega) (fits4 (by omega) (by omega))) (ClL.cons (Cl.int _ _) (ClL.cons (Cl.int _ _) ClL.nil)) (Cl.bs _) ?_
    (conv => arg 4; whnf); repeat (refine ⟨rfl, ?_⟩; conv => arg 4; whnf)
    refine ⟨⟨by first | rfl | trivial, sizeOk 1 rfl ?_⟩, ?_⟩
    · simp [u8s_length, fixed_len]
    (conv => arg 4; whnf); repeat (refine ⟨rfl, ?_⟩; conv => arg 4; whnf)
    refine tri_loopG (ι := EnI b) (fun a => ⟨[(5, .int .i64 a.i), (4, .sl (.tok 1 a.s) 0 (u8s (b.head ++ recsB (b.recs.take a.i) b.first b.base))), (3, .int .i64 b.first), (1, .ptr 0 0)], [(1, .tip a.s), (0, batO b)], 2, 78⟩) (fun a => b.recs.length - a.i) ⟨0, 4, Nat.zero_le _⟩ (WkG.of rfl rfl ⟨Le.refl _ _, Le.of_eq ?_, Le.of_eq (congrArg _ hx), Le.refl _ _, trivial⟩ ⟨⟨_, rfl, LeO.refl _ _⟩, ⟨_, rfl, LeO.refl _ _⟩, trivial⟩ ⟨rfl, Cl.bsT (by decide) _, rfl, rfl, trivial⟩ ⟨⟨by decide, rfl⟩, ⟨by decide, renO_batO _ _⟩, trivial⟩) ?_
    · conv => lhs; whnf
      simp only [Bat.head, u8s_append, hx, recsB, List.take_zero, List.map_nil, List.flatten_nil, List.append_nil]
      rfl
  all_goals
    intro a
    have hi := a.hi
    have hlen := recs_take_len hb a.i
    have hhl := head_len b
    conv => arg 4; whnf
    refine ⟨fun h => ?_, fun h => ?_⟩
    · have hi : a.i < b.recs.length := by rw [recs_length] at h; simp at h; omega
      obtain ⟨x, hx⟩ : ∃ x, b.recs[a.i]? = some x := ⟨_, List.getElem?_eq_getElem hi⟩
      have hg := recs_get hx
      conv => arg 4; whnf
      refine ⟨x.av, ⟨by omega, hg⟩, ?_⟩
      (conv => arg 4; whnf); repeat (refine ⟨rfl, ?_⟩; conv => arg 4; whnf)
      have hxf := hb.recs x (List.mem_of_getElem? hx)
      have hbl := body_len hb hxf
      have hxk := hxf
      unfold Rec.fine at hxk
      have hpl := put_len (n := (x.body b.first b.base).length) (by unfold I64; omega)
      refine call0 (refBody rfl hb hxf) (ClL.cons (Cl.rec x) (ClL.cons (Cl.int _ _) (ClL.cons (Cl.int _ _) ClL.nil))) (Cl.bs _) ?_
      (conv => arg 4; whnf); repeat (refine ⟨rfl, ?_⟩; conv => arg 4; whnf)
      refine call0 (refBytes (by omega)) (ClL.cons (Cl.bs _) ClL.nil) (Cl.bs _) ?_
      (conv => arg 4; whnf); repeat (refine ⟨rfl, ?_⟩; conv => arg 4; whnf)
      refine ⟨⟨rfl, sizeOk 1 rfl ?_⟩, ?_⟩
      · rw [List.length_append, u8s_length, u8s_length, List.length_append, List.length_append]; omega
      (conv => arg 4; whnf); repeat (refine ⟨rfl, ?_⟩; conv => arg 4; whnf)
      refine ⟨⟨a.i + 1, a.s + 1, hi⟩, by show b.recs.length - (a.i + 1) < b.recs.length - a.i; omega, WkG.of rfl rfl ⟨Le.of_eq (succ_int (by omega)), Le.of_eq (congrArg (AV.sl _ 0) ?_), Le.refl _ _, Le.refl _ _, trivial⟩ ⟨⟨_, rfl, LeO.refl _ _⟩, ⟨_, rfl, LeO.refl _ _⟩, trivial⟩ ⟨rfl, Cl.bsT (by decide) _, rfl, rfl, trivial⟩ ⟨⟨by decide, rfl⟩, ⟨by decide, renO_batO _ _⟩, trivial⟩⟩
      rw [← u8s_append, recs_take hx, List.append_assoc]
      rfl
    · have hi : a.i = b.recs.length := by rw [recs_length] at h; simp at h; omega
      conv => arg 4; whnf
      have hrest : b.head ++ recsB (b.recs.take a.i) b.first b.base = b.rest := by rw [hi, List.take_length]; rfl
      rw [hrest]
      have hrl := rest_len hb
      have hcs := crcSum_range b.rest
      refine fin_exit ?_
      show holds _ _ _ _
      conv => arg 4; whnf
      refine call0 (refFixedF' (n := b.base) (size := 8) (by unfold I64; omega) (fits8 (by omega))) (ClL.cons (Cl.int _ _) (ClL.cons (Cl.int _ _) ClL.nil)) (Cl.slFull (ClL.u8s _)) ?_
      (conv => arg 4; whnf); repeat (refine ⟨rfl, ?_⟩; conv => arg 4; whnf)
      have w2 : IntKind.i64.wrap (((u8s b.rest).length : Int) + 4) = ((b.rest.length + 4 : Nat) : Int) := by rw [u8s_length, IntKind.wrap_i64]; omega
      rw [w2]
      refine call0 (refFixed' (n := ((b.rest.length + 4 : Nat) : Int)) (size := 4) (by unfold I64; omega) (fits4 (by omega) (by omega))) (ClL.cons (Cl.int _ _) (ClL.cons (Cl.int _ _) ClL.nil)) (Cl.bs _) ?_
      (conv => arg 4; whnf); repeat (refine ⟨rfl, ?_⟩; conv => arg 4; whnf)
      refine ⟨sizeOk 1 rfl ?_, ?_⟩
      · simp [u8s_length, fixed_len]
      (conv => arg 4; whnf); repeat (refine ⟨rfl, ?_⟩; conv => arg 4; whnf)
      refine holds_args (args' := [bs b.rest]) ⟨Le.none, trivial⟩ (call0 (refSum (by omega)) (ClL.cons (Cl.bs _) ClL.nil) (Cl.int _ _) ?_)
      (conv => arg 4; whnf); repeat (refine ⟨rfl, ?_⟩; conv => arg 4; whnf)
      have w3 : IntKind.i64.wrap (crcSum b.rest : Int) = ((crcSum b.rest : Nat) : Int) := by rw [IntKind.wrap_i64]; omega
      rw [w3]
      refine call0 (refFixed' (n := ((crcSum b.rest : Nat) : Int)) (size := 4) (by unfold I64; omega) (fits4 (by omega) (by omega))) (ClL.cons (Cl.int _ _) (ClL.cons (Cl.int _ _) ClL.nil)) (Cl.bs _) ?_
      (conv => arg 4; whnf); repeat (refine ⟨rfl, ?_⟩; conv => arg 4; whnf)
      refine ⟨⟨by first | rfl | trivial, sizeOk 1 rfl ?_⟩, ?_⟩
      · simp [u8s_length, fixed_len]
      (conv => arg 4; whnf); repeat (refine ⟨rfl, ?_⟩; conv => arg 4; whnf)
      refine ⟨⟨by first | rfl | trivial, sizeOk 1 rfl ?_⟩, ?_⟩
      · simp only [List.length_append, u8s_length, fixed_len]; have e4 : Int.toNat 4 = 4 := rfl; have e8 : Int.toNat 8 = 8 := rfl; omega
      (conv => arg 4; whnf); repeat (refine ⟨rfl, ?_⟩; conv => arg 4; whnf)
      refine ⟨by decide, Le.noneOf ?_, trivial, (Cl.bs _) _, trivial⟩
      simp only [Bat.enc, u8s_append]
      rfl
end Go.Proofs.Ythclmkhkchbpiaa

namespace Go.Proofs.Ythclmkhkchbpiaa
set_option maxRecDepth 100000
set_option maxHeartbeats 80000000
open Go.Sym

def growRen : Go.Shelf.Ren := ⟨fun n => match n with | 4 => 111 | n => n, fun n => match n with | 22 => 25 | 25 => 5 | n => n, fun n => n⟩

theorem growLays : Lays8.n4 Try.prog growRen where
  mixed := rfl
  f4 := ⟨"slices.Grow[[]byte,byte]", by decide, Try.func111⟩
  t0 := Try.underlying0
  a0 := Try.isAgg0
  z0 := Try.sizeOf0
  v0 := Try.zeroValue0
  t3 := Try.underlying3
  a3 := Try.isAgg3
  z3 := Try.sizeOf3
  v3 := Try.zeroValue3
  t4 := Try.underlying4
  a4 := Try.isAgg4
  z4 := Try.sizeOf4
  v4 := Try.zeroValue4
  t9 := Try.underlying9
  a9 := Try.isAgg9
  z9 := Try.sizeOf9
  v9 := Try.zeroValue9
  t20 := Try.underlying20
  a20 := Try.isAgg20
  z20 := Try.sizeOf20
  v20 := Try.zeroValue20
  t22 := Try.underlying25
  a22 := Try.isAgg25
  z22 := Try.sizeOf25
  v22 := Try.zeroValue25

theorem grow {n : Nat} (hn : n ≤ 100000000000) : CallOK Try.prog 111 [.nils, .int .i64 n] [] 0 (NewSl 0 (u8s [])) := by
  suffices hs : CallOK Try.prog 111 [.nils, .int .i64 n] [] 0 (fun a h m => Out .nils [] 0 a h m ∨ Out (.sl (.tok 0 0) 0 []) [(0, .tip 0)] 1 a h m) from
    hs.ghost fun a h m ho => by
      rcases ho with ⟨e1, e2, e3⟩ | ⟨e1, e2, e3⟩ <;> subst e1 <;> subst e2 <;> subst e3
      · exact ⟨_, [(0, .tip 0)], 1, by omega, (Gh.token 0 _ [] 0).trans (Gh.le (fun _ => Le.nilsTok rfl) (fun id o hg => ⟨o, hg, LeO.refl _ _⟩)), 0, rfl, rfl, rfl⟩
      · exact ⟨_, [(0, .tip 0)], 1, by omega, .refl _ _ _ _, 0, rfl, rfl, rfl⟩
  refine ⟨Try.call111, fun F V w vs i hf hr => ?_⟩
  have hvs : vs.toArray = #[.slice none 0 0, .int .i64 n] := by
    simp only [repL, rep] at hr
    obtain ⟨a, r, rfl, rfl, b, r2, rfl, rfl, rfl⟩ := hr
    rfl
  rw [hvs]
  rcases Nat.eq_zero_or_pos n with rfl | hp
  · refine (Any8.slices_Grow_room growLays none 0 0 0 w (by omega) (by omega) (by omega) (by omega)).mono ?_
    rintro e w' ⟨rfl, rfl⟩
    exact ⟨_, F, V, .nils, [], 0, rfl, .refl .., i, hf, by simp [rep], .inl ⟨rfl, rfl, rfl⟩⟩
  · have := Any8.slices_Grow_grow growLays _ (.int .u8 0) rfl rfl (by decide) none 0 0 n [] w (by omega) (by omega) (by show (0 + n) * 1 ≤ _; omega) (by omega) (by simp) (by simp) (by simp)
    refine this.mono ?_
    rintro e w' ⟨rfl, rfl⟩
    obtain ⟨G, hG⟩ : ∃ G, G = grownCap w (0 + n) 0 (growRen.t 25) := ⟨_, rfl⟩
    have hGn : 0 + n ≤ G := by rw [hG]; exact grownCap_ge w _ _ _
    rw [← hG]
    obtain ⟨all, hall⟩ : ∃ all : Array Value, all = ([] : List Value).toArray ++ Builtin.zeroCells (Value.int .u8 0).cells (0 + n - 0) ++ Builtin.zeroCells (Value.int .u8 0).cells (G - (0 + n)) := ⟨_, rfl⟩
    rw [← hall]
    have hsz : all.size = G := by
      rw [hall]
      simp only [Array.size_append, size_zeroCells, List.size_toArray, List.length_nil]
      show 0 + (0 + n - 0) * 1 + (G - (0 + n)) * 1 = G
      omega
    obtain ⟨i2, s2⟩ := Inv.tokAlloc (t := 0) (st := 0) (m := 0) (h' := [(0, .tip 0)]) (e := growRen.t 25) (all := all) (w' := w.drew.alloc (.cells all (growRen.t 25))) i rfl rfl rfl rfl (Nat.zero_le _) (fun y hy => by rw [(hf 0 (Nat.le_refl _)).2] at hy; cases hy) (fun id' o hg => by
      rw [get_cons'] at hg
      split at hg
      · rename_i h0; cases hg; exact .inl ⟨h0.symm, rfl⟩
      · simp [Sym.get] at hg)
    refine ⟨_, _, _, .sl (.tok 0 0) 0 [], [(0, .tip 0)], 1, rfl, s2, i2, ?_, ?_, .inr ⟨rfl, rfl, rfl⟩⟩
    · exact fresh_setTok (fun id hid => hf id (by omega)) (by omega)
    · simp only [rep]
      refine .inl ⟨w.heap.size, 0, G, [], rfl, by simp [repL], by simp, fun j y hy => by simp [flat] at hy, Nat.zero_le _, ⟨some w.heap.size, 0, 0, all.size⟩, by simp [View.setTok], Nat.le_refl _, fun _ => .inr ⟨rfl, by simp, ?_⟩⟩
      show 0 + G * 1 ≤ all.size
      omega
end Go.Proofs.Ythclmkhkchbpiaa

namespace Go.Proofs.Ythclmkhkchbpiaa
set_option maxRecDepth 100000
set_option maxHeartbeats 80000000
open Go.Sym

def blsL (ls : List (List UInt8)) : List AV := ls.map fun l => .sl .none 0 (u8s l)
theorem ClL.bls (ls : List (List UInt8)) : ClL (blsL ls) := ClL.map (fun l => Cl.bs l) ls
theorem bls_get {ls : List (List UInt8)} {i : Nat} {x : List UInt8} (h : ls[i]? = some x) : (blsL ls)[((i : Nat) : Int).toNat]? = some (.sl .none 0 (u8s x)) := by
  simp [blsL, h]
theorem bls_length (ls : List (List UInt8)) : (blsL ls).length = ls.length := by simp [blsL]

structure CcJ (ls : List (List UInt8)) where
  i : Nat
  s : Nat
  hi : i ≤ ls.length

structure CcI (ls : List (List UInt8)) where
  i : Nat
  hi : i ≤ ls.length

theorem flat_take {ls : List (List UInt8)} {i : Nat} {x : List UInt8} (h : ls[i]? = some x) : (ls.take (i + 1)).flatten = (ls.take i).flatten ++ x := by
  rw [List.take_add_one, h]; simp
theorem flat_take_le (ls : List (List UInt8)) (i : Nat) : (ls.take i).flatten.length ≤ ls.flatten.length := by
  conv => rhs; rw [← List.take_append_drop i ls, List.flatten_append, List.length_append]
  omega

theorem concat {ls : List (List UInt8)} (hl : ls.length ≤ 1000000) (ht : ls.flatten.length ≤ 1000000000) : CallOK Try.prog 102 [.sl .none 0 (blsL ls)] [] 0 (NewSl 0 (u8s ls.flatten)) := by
  refine callOK Try.call102 Try.func102 Try.ntmps102 rfl ?_
  conv => arg 4; whnf
  have cl : ∀ ρ, ren ρ (.sl .none 0 (blsL ls)) = .sl .none 0 (blsL ls) := Cl.sl (ClL.bls ls)
  rw [bls_length]
  refine tri_loopG (ι := CcI ls) (fun a => ⟨[(11, .int .i64 a.i), (10, .int .i64 ls.length), (9, .sl .none 0 (blsL ls)), (3, .int .i64 (ls.take a.i).flatten.length), (0, .sl .none 0 (blsL ls))], [], 0, 36⟩) (fun a => ls.length - a.i) ⟨0, Nat.zero_le _⟩ (WkG.of rfl rfl ⟨Le.refl _ _, Le.refl _ _, Le.refl _ _, Le.refl _ _, Le.refl _ _, trivial⟩ trivial ⟨rfl, rfl, cl _, rfl, cl _, trivial⟩ trivial) ?_
  intro a
  have hai := a.hi
  conv => arg 4; whnf
  refine ⟨fun h => ?_, fun h => ?_⟩
  · have hi : a.i < ls.length := by simp at h; omega
    obtain ⟨x, hx⟩ : ∃ x, ls[a.i]? = some x := ⟨_, List.getElem?_eq_getElem hi⟩
    have hg := bls_get hx
    have h1 := flat_take hx
    have h2 := flat_take_le ls (a.i + 1)
    have h3 : (ls.take (a.i + 1)).flatten.length = (ls.take a.i).flatten.length + x.length := by rw [h1, List.length_append]
    conv => arg 4; whnf
    refine ⟨_, ⟨by omega, hg⟩, ?_⟩
    (conv => arg 4; whnf); repeat (refine ⟨rfl, ?_⟩; conv => arg 4; whnf)
    have e : IntKind.i64.wrap (((ls.take a.i).flatten.length : Int) + ((u8s x).length : Int)) = (((ls.take (a.i + 1)).flatten.length : Nat) : Int) := by rw [u8s_length, IntKind.wrap_i64, h3]; omega
    rw [e]
    refine ⟨fun h => absurd h (by simp), fun _ => ?_⟩
    conv => arg 4; whnf
    exact ⟨⟨a.i + 1, hi⟩, by show ls.length - (a.i + 1) < ls.length - a.i; omega, WkG.of rfl rfl ⟨Le.of_eq (succ_int (by omega)), Le.refl _ _, Le.refl _ _, Le.refl _ _, Le.refl _ _, trivial⟩ trivial ⟨rfl, rfl, cl _, rfl, cl _, trivial⟩ trivial⟩
  · have hi : a.i = ls.length := by simp at h; omega
    rw [hi, List.take_length]
    conv => arg 4; whnf
    refine fin_exit ?_
    show holds _ _ _ _
    conv => arg 4; whnf
    refine callT (grow (n := ls.flatten.length) (by omega)) (ClL.cons Cl.nils (ClL.cons (Cl.int _ _) ClL.nil)) (ClL.u8s _) fun s => ?_
    (conv => arg 4; whnf); repeat (refine ⟨rfl, ?_⟩; conv => arg 4; whnf)
    rw [bls_length]
    refine tri_loopG (ι := CcJ ls) (fun a => ⟨[(27, .int .i64 a.i), (26, .int .i64 ls.length), (25, .sl .none 0 (blsL ls)), (6, .sl (.tok 0 a.s) 0 (u8s (ls.take a.i).flatten))], [(0, .tip a.s)], 1, 36⟩) (fun a => ls.length - a.i) ⟨0, s, Nat.zero_le _⟩ (WkG.of rfl rfl ⟨Le.refl _ _, Le.refl _ _, Le.refl _ _, Le.refl _ _, trivial⟩ ⟨⟨_, rfl, LeO.refl _ _⟩, trivial⟩ ⟨rfl, rfl, cl _, cut_ok rfl, trivial⟩ ⟨⟨by decide, rfl⟩, trivial⟩) ?_
    intro a
    have hai := a.hi
    conv => arg 4; whnf
    refine ⟨fun h => ?_, fun h => ?_⟩
    · have hi : a.i < ls.length := by simp at h; omega
      obtain ⟨x, hx⟩ : ∃ x, ls[a.i]? = some x := ⟨_, List.getElem?_eq_getElem hi⟩
      have hg := bls_get hx
      have h1 := flat_take hx
      have h2 := flat_take_le ls (a.i + 1)
      have h3 : (ls.take (a.i + 1)).flatten.length = (ls.take a.i).flatten.length + x.length := by rw [h1, List.length_append]
      conv => arg 4; whnf
      refine ⟨_, ⟨by omega, hg⟩, ?_⟩
      (conv => arg 4; whnf); repeat (refine ⟨rfl, ?_⟩; conv => arg 4; whnf)
      refine ⟨⟨rfl, sizeOk 1 rfl ?_⟩, ?_⟩
      · rw [List.length_append, u8s_length, u8s_length]; omega
      (conv => arg 4; whnf); repeat (refine ⟨rfl, ?_⟩; conv => arg 4; whnf)
      exact ⟨⟨a.i + 1, a.s + 1, hi⟩, by show ls.length - (a.i + 1) < ls.length - a.i; omega, WkG.of rfl rfl ⟨Le.of_eq (succ_int (by omega)), Le.refl _ _, Le.refl _ _, Le.of_eq (congrArg (AV.sl _ 0) (by rw [h1, u8s_append])), trivial⟩ ⟨⟨_, rfl, LeO.refl _ _⟩, trivial⟩ ⟨rfl, rfl, cl _, cut_ok rfl, trivial⟩ ⟨⟨by decide, rfl⟩, trivial⟩⟩
    · have hi : a.i = ls.length := by simp at h; omega
      rw [hi, List.take_length]
      conv => arg 4; whnf
      refine fin_exit ?_
      show holds _ _ _ _
      conv => arg 4; whnf
      exact ⟨a.s, rfl, rfl, rfl⟩
end Go.Proofs.Ythclmkhkchbpiaa

namespace Go.Proofs.Ythclmkhkchbpiaa
set_option maxRecDepth 100000
set_option maxHeartbeats 80000000
open Go.Sym

theorem batText {has : Bool} {l : List UInt8} (hl : l.length ≤ 1000000000) : CallOK Try.prog 103 [.bool has, bs l] [] 0 (Out (bs (opt has l)) [] 0) := by
  have n3 : I64 (-1) := by unfold I64; omega
  have n1 : I64 l.length := by unfold I64; omega
  have p1 := put_len n1
  refine CallOK.fit (by decide) ?_
  refine callOK Try.call103 Try.func103 Try.ntmps103 rfl ?_
  conv => arg 4; whnf
  refine ⟨fun h => ?_, fun h => ?_⟩
  · have h : has = false := by simpa using h
    subst h
    conv => arg 4; whnf
    refine call0 (numPut n3) (ClL.cons (Cl.int _ _) ClL.nil) (Cl.bs _) ?_
    (conv => arg 4; whnf); repeat (refine ⟨rfl, ?_⟩; conv => arg 4; whnf)
    refine ⟨by decide, Le.noneOf ?_, trivial, (Cl.bs _) _, trivial⟩
    rfl
  · have h : has = true := by simpa using h
    subst h
    conv => arg 4; whnf
    rw [u8s_length]
    refine callT (numPutT n1) (ClL.cons (Cl.int _ _) ClL.nil) (ClL.u8s _) fun s => ?_
    (conv => arg 4; whnf); repeat (refine ⟨rfl, ?_⟩; conv => arg 4; whnf)
    refine ⟨⟨by first | rfl | trivial, sizeOk 1 rfl ?_⟩, ?_⟩
    · simp [u8s_length]; omega
    (conv => arg 4; whnf); repeat (refine ⟨rfl, ?_⟩; conv => arg 4; whnf)
    refine ⟨by decide, Le.noneOf ?_, trivial, (Cl.bs _) _, trivial⟩
    rw [← u8s_append]
    rfl

/-- The greatest time. -/
def Bat.most (b : Bat) : Int := (b.recs.map Rec.time).foldl max b.first
def timesF (b : Bat) (i : Nat) : Int := if i = 0 then 0 else b.first
def timesM (b : Bat) (i : Nat) : Int := if i = 0 then 0 else ((b.recs.take i).map Rec.time).foldl max b.first

theorem timesM_succ {b : Bat} {i : Nat} {x : Rec} (h : b.recs[i]? = some x) : timesM b (i + 1) = max (if i = 0 then b.first else timesM b i) x.time := by
  unfold timesM
  rw [if_neg (by omega), List.take_add_one, h]
  simp only [Option.toList_some, List.map_append, List.map_cons, List.map_nil, List.foldl_append, List.foldl_cons, List.foldl_nil]
  by_cases hi : i = 0
  · subst hi; simp
  · simp [hi]
theorem times_all (b : Bat) : timesF b b.recs.length = b.first ∧ timesM b b.recs.length = b.most := by
  unfold timesF timesM Bat.most
  by_cases h : b.recs.length = 0
  · have : b.recs = [] := List.eq_nil_of_length_eq_zero h
    simp [this, Bat.first]
  · rw [if_neg h, if_neg h, List.take_length]
    exact ⟨rfl, rfl⟩
theorem first_zero {b : Bat} {x : Rec} (h : b.recs[0]? = some x) : b.first = x.time := by
  unfold Bat.first
  cases hr : b.recs with
  | nil => simp [hr] at h
  | cons r l => simp [hr] at h; rw [h]

structure TmI (b : Bat) where
  i : Nat
  hi : i ≤ b.recs.length

theorem batTimes {b : Bat} (hl : b.recs.length ≤ 1000000) : CallOK Try.prog 51 [b.av] [] 0 (Out (.tup [.int .i64 b.first, .int .i64 b.most]) [] 0) := by
  have cl : ∀ ρ, ren ρ (recsV b.recs) = recsV b.recs := Cl.sl (ClL.recs _)
  refine CallOK.fit (by decide) ?_
  refine callOK Try.call51 Try.func51 Try.ntmps51 rfl ?_
  conv => arg 4; whnf
  rw [recs_length]
  refine tri_loopG (ι := TmI b) (fun a => ⟨[(9, .int .i64 a.i), (8, .int .i64 b.recs.length), (7, recsV b.recs), (2, .int .i64 (timesF b a.i)), (3, .int .i64 (timesM b a.i))], [], 1, 27⟩) (fun a => b.recs.length - a.i) ⟨0, Nat.zero_le _⟩ (WkG.of rfl rfl ⟨Le.refl _ _, Le.refl _ _, Le.refl _ _, Le.refl _ _, Le.refl _ _, trivial⟩ trivial ⟨rfl, rfl, cl _, rfl, rfl, trivial⟩ trivial) ?_
  intro a
  have hai := a.hi
  conv => arg 4; whnf
  refine ⟨fun h => ?_, fun h => ?_⟩
  · have hi : a.i < b.recs.length := by simp at h; omega
    obtain ⟨x, hx⟩ : ∃ x, b.recs[a.i]? = some x := ⟨_, List.getElem?_eq_getElem hi⟩
    have hg := recs_get hx
    have hm := timesM_succ hx
    conv => arg 4; whnf
    refine ⟨_, ⟨by omega, hg⟩, ?_⟩
    (conv => arg 4; whnf); repeat (refine ⟨rfl, ?_⟩; conv => arg 4; whnf)
    refine ⟨fun h0 => ?_, fun h0 => ?_⟩
    · have h0 : a.i = 0 := by simp at h0; omega
      rw [h0] at hx hm
      have hf := first_zero hx
      (conv => arg 4; whnf); repeat (refine ⟨rfl, ?_⟩; conv => arg 4; whnf)
      refine ⟨⟨a.i + 1, hi⟩, by show b.recs.length - (a.i + 1) < b.recs.length - a.i; omega, WkG.of rfl rfl ⟨Le.of_eq (succ_int (by omega)), Le.refl _ _, Le.refl _ _, Le.of_eq (congrArg (AV.int _) ?_), Le.of_eq (congrArg (AV.int _) ?_), trivial⟩ trivial ⟨rfl, rfl, cl _, rfl, rfl, trivial⟩ trivial⟩
      · show x.time = timesF b (a.i + 1)
        rw [← hf]; simp [timesF]
      · show (if x.time > x.time then x.time else x.time) = timesM b (a.i + 1)
        simp [h0, hm, hf]
    · have h0 : a.i ≠ 0 := by simp at h0; omega
      (conv => arg 4; whnf); repeat (refine ⟨rfl, ?_⟩; conv => arg 4; whnf)
      refine ⟨⟨a.i + 1, hi⟩, by show b.recs.length - (a.i + 1) < b.recs.length - a.i; omega, WkG.of rfl rfl ⟨Le.of_eq (succ_int (by omega)), Le.refl _ _, Le.refl _ _, Le.of_eq (congrArg (AV.int _) ?_), Le.of_eq (congrArg (AV.int _) ?_), trivial⟩ trivial ⟨rfl, rfl, cl _, rfl, rfl, trivial⟩ trivial⟩
      · show timesF b a.i = timesF b (a.i + 1)
        simp [timesF, h0]
      · show (if x.time > timesM b a.i then x.time else timesM b a.i) = timesM b (a.i + 1)
        rw [hm, if_neg h0]
        omega
  · have hi : a.i = b.recs.length := by simp at h; omega
    rw [hi, (times_all b).1, (times_all b).2]
    conv => arg 4; whnf
    refine fin_exit ?_
    show holds _ _ _ _
    conv => arg 4; whnf
    exact ⟨by decide, Le.refl _ _, trivial, rfl, trivial⟩

theorem refTimes {b : Bat} (hl : b.recs.length ≤ 1000000) : CallOK Try.prog 52 [b.av] [] 0 (Out (.tup [.int .i64 b.first, .int .i64 b.most]) [] 0) := by
  refine CallOK.fit (by decide) ?_
  refine callOK Try.call52 Try.func52 Try.ntmps52 rfl ?_
  conv => arg 4; whnf
  refine tri_loopG (ι := TmI b) (fun a => ⟨[(6, .int .i64 a.i), (5, .int .i64 (timesM b a.i)), (4, .int .i64 (timesF b a.i)), (1, .ptr 0 0)], [(0, batO b)], 1, 33⟩) (fun a => b.recs.length - a.i) ⟨0, Nat.zero_le _⟩ (WkG.of rfl rfl ⟨Le.refl _ _, Le.refl _ _, Le.refl _ _, Le.refl _ _, trivial⟩ ⟨⟨_, rfl, LeO.refl _ _⟩, trivial⟩ ⟨rfl, rfl, rfl, rfl, trivial⟩ ⟨⟨by decide, renO_batO _ _⟩, trivial⟩) ?_
  intro a
  have hai := a.hi
  conv => arg 4; whnf
  refine ⟨fun h => ?_, fun h => ?_⟩
  · have hi : a.i < b.recs.length := by rw [recs_length] at h; simp at h; omega
    obtain ⟨x, hx⟩ : ∃ x, b.recs[a.i]? = some x := ⟨_, List.getElem?_eq_getElem hi⟩
    have hg := recs_get hx
    have hm := timesM_succ hx
    (conv => arg 4; whnf); repeat (refine ⟨rfl, ?_⟩; conv => arg 4; whnf)
    refine ⟨fun h0 => ?_, fun h0 => ?_⟩
    · have h0 : a.i = 0 := by simp at h0; omega
      rw [h0] at hx hm
      have hf := first_zero hx
      (conv => arg 4; whnf); repeat (refine ⟨rfl, ?_⟩; conv => arg 4; whnf)
      refine ⟨_, ⟨by omega, hg⟩, ?_⟩
      (conv => arg 4; whnf); repeat (refine ⟨rfl, ?_⟩; conv => arg 4; whnf)
      refine ⟨_, ⟨by omega, hg⟩, ?_⟩
      (conv => arg 4; whnf); repeat (refine ⟨rfl, ?_⟩; conv => arg 4; whnf)
      refine ⟨⟨a.i + 1, hi⟩, by show b.recs.length - (a.i + 1) < b.recs.length - a.i; omega, WkG.of rfl rfl ⟨Le.of_eq (succ_int (by omega)), Le.of_eq (congrArg (AV.int _) ?_), Le.of_eq (congrArg (AV.int _) ?_), Le.refl _ _, trivial⟩ ⟨⟨_, rfl, LeO.refl _ _⟩, trivial⟩ ⟨rfl, rfl, rfl, rfl, trivial⟩ ⟨⟨by decide, renO_batO _ _⟩, trivial⟩⟩
      · show (if x.time > x.time then x.time else x.time) = timesM b (a.i + 1)
        simp [h0, hm, hf]
      · show x.time = timesF b (a.i + 1)
        rw [← hf]; simp [timesF]
    · have h0 : a.i ≠ 0 := by simp at h0; omega
      (conv => arg 4; whnf); repeat (refine ⟨rfl, ?_⟩; conv => arg 4; whnf)
      refine ⟨_, ⟨by omega, hg⟩, ?_⟩
      (conv => arg 4; whnf); repeat (refine ⟨rfl, ?_⟩; conv => arg 4; whnf)
      refine ⟨⟨a.i + 1, hi⟩, by show b.recs.length - (a.i + 1) < b.recs.length - a.i; omega, WkG.of rfl rfl ⟨Le.of_eq (succ_int (by omega)), Le.of_eq (congrArg (AV.int _) ?_), Le.of_eq (congrArg (AV.int _) ?_), Le.refl _ _, trivial⟩ ⟨⟨_, rfl, LeO.refl _ _⟩, trivial⟩ ⟨rfl, rfl, rfl, rfl, trivial⟩ ⟨⟨by decide, renO_batO _ _⟩, trivial⟩⟩
      · show (if x.time > timesM b a.i then x.time else timesM b a.i) = timesM b (a.i + 1)
        rw [hm, if_neg h0]
        omega
      · show timesF b a.i = timesF b (a.i + 1)
        simp [timesF, h0]
  · have hi : a.i = b.recs.length := by rw [recs_length] at h; simp at h; omega
    rw [hi, (times_all b).1, (times_all b).2]
    conv => arg 4; whnf
    refine fin_exit ?_
    show holds _ _ _ _
    conv => arg 4; whnf
    exact ⟨by decide, Le.refl _ _, trivial, rfl, trivial⟩
end Go.Proofs.Ythclmkhkchbpiaa

namespace Go.Proofs.Ythclmkhkchbpiaa
set_option maxRecDepth 100000
set_option maxHeartbeats 80000000
open Go.Sym

theorem batWritten {b : Bat} (hb : b.fine) : CallOK Try.prog 85 [b.av] [] 0 (Out (bs b.enc) [] 0) := by
  have h1 := first_time hb
  have hh := hb.head
  unfold HeadBad at hh
  have hf := hb.few
  have w1 : IntKind.i64.wrap (b.last - b.base) = b.last - b.base := by rw [IntKind.wrap_i64]; omega
  refine CallOK.fit (by decide) ?_
  refine callOK Try.call85 Try.func85 Try.ntmps85 rfl ?_
  conv => arg 4; whnf
  refine call0 (batTimes (b := b) (by omega)) (ClL.cons (Cl.bat b) ClL.nil) (Cl.tup (ClL.cons (Cl.int _ _) (ClL.cons (Cl.int _ _) ClL.nil))) ?_
  (conv => arg 4; whnf); repeat (refine ⟨rfl, ?_⟩; conv => arg 4; whnf)
  refine holds_args (args' := [.ptr 1 0, .int .i64 (b.last - b.base), .int .i64 8]) ⟨Le.refl _ _, Le.of_eq (congrArg _ w1), Le.refl _ _, trivial⟩ ?_
  refine holds_wnew 1 0 [.bl false] [.bool false] rfl (LeL.cons Le.bl (LeL.nil _)) (by decide) ?_
  refine callWE 1 2 (wFixedT (n := b.last - b.base) (size := 8) (l := []) (by unfold I64; omega) (fits8 (by omega)) (by simp [fixed_len])) (by decide) (by decide) rfl rfl (ClL.u8s _) (ClL.cons (Cl.bool _) ClL.nil) (ClL.u8s _) (ClL.cons (Cl.bool _) ClL.nil) rfl rfl fun s1 => ?_
  (conv => arg 4; whnf); repeat (refine ⟨rfl, ?_⟩; conv => arg 4; whnf)
  refine callWE 1 2 (wFixedT (n := b.first) (size := 8) (by unfold I64; omega) (fits8 (by omega)) (by simp [fixed_len])) (by decide) (by decide) rfl rfl (ClL.u8s _) (ClL.cons (Cl.bool _) ClL.nil) (ClL.u8s _) (ClL.cons (Cl.bool _) ClL.nil) rfl rfl fun s2 => ?_
  (conv => arg 4; whnf); repeat (refine ⟨rfl, ?_⟩; conv => arg 4; whnf)
  refine callWE 1 2 (wFixedT (n := b.prod) (size := 8) (by unfold I64; omega) (fits8 (by omega)) (by simp [fixed_len])) (by decide) (by decide) rfl rfl (ClL.u8s _) (ClL.cons (Cl.bool _) ClL.nil) (ClL.u8s _) (ClL.cons (Cl.bool _) ClL.nil) rfl rfl fun s3 => ?_
  (conv => arg 4; whnf); repeat (refine ⟨rfl, ?_⟩; conv => arg 4; whnf)
  refine callWE 1 2 (wFixedT (n := b.epoch) (size := 2) (by unfold I64; omega) (fits2 (by omega) (by omega)) (by simp [fixed_len])) (by decide) (by decide) rfl rfl (ClL.u8s _) (ClL.cons (Cl.bool _) ClL.nil) (ClL.u8s _) (ClL.cons (Cl.bool _) ClL.nil) rfl rfl fun s4 => ?_
  (conv => arg 4; whnf); repeat (refine ⟨rfl, ?_⟩; conv => arg 4; whnf)
  refine callWE 1 2 (wFixedT (n := b.seq) (size := 4) (by unfold I64; omega) (fits4 (by omega) (by omega)) (by simp [fixed_len])) (by decide) (by decide) rfl rfl (ClL.u8s _) (ClL.cons (Cl.bool _) ClL.nil) (ClL.u8s _) (ClL.cons (Cl.bool _) ClL.nil) rfl rfl fun s5 => ?_
  (conv => arg 4; whnf); repeat (refine ⟨rfl, ?_⟩; conv => arg 4; whnf)
  refine holds_args (args' := [.ptr 1 0, .int .i64 b.recs.length, .int .i64 4]) ⟨Le.refl _ _, Le.of_eq (congrArg (fun n : Nat => AV.int .i64 n) (recs_length _)), Le.refl _ _, trivial⟩ ?_
  refine callWE 1 2 (wFixedT (n := b.recs.length) (size := 4) (by unfold I64; omega) (fits4 (by omega) (by omega)) (by simp [fixed_len])) (by decide) (by decide) rfl rfl (ClL.u8s _) (ClL.cons (Cl.bool _) ClL.nil) (ClL.u8s _) (ClL.cons (Cl.bool _) ClL.nil) rfl rfl fun s6 => ?_
  (conv => arg 4; whnf); repeat (refine ⟨rfl, ?_⟩; conv => arg 4; whnf)
  have e8 : Int.toNat 8 = 8 := rfl
  have e4 : Int.toNat 4 = 4 := rfl
  have e2 : Int.toNat 2 = 2 := rfl
  refine callWD 1 2 (wDoneT (by simp [fixed_len])) (by decide) (by decide) rfl rfl (ClL.u8s _) (ClL.cons (Cl.bool _) ClL.nil) (ClL.u8s _) (ClL.cons (Cl.bool _) ClL.nil) (ClL.u8s _) (ClL.cons (Cl.bl _) ClL.nil) rfl fun s7 => ?_
  (conv => arg 4; whnf); repeat (refine ⟨rfl, ?_⟩; conv => arg 4; whnf)
  have hhead : u8s ([] ++ fixed (b.last - b.base).toNat (Int.toNat 8) ++ fixed b.first.toNat (Int.toNat 8) ++ fixed b.prod.toNat (Int.toNat 8) ++ fixed b.epoch.toNat (Int.toNat 2) ++ fixed b.seq.toNat (Int.toNat 4) ++ fixed ((b.recs.length : Nat) : Int).toNat (Int.toNat 4)) = u8s (b.head ++ recsB (b.recs.take 0) b.first b.base) := by
    simp [Bat.head, recsB]
  have cl : ∀ ρ, ren ρ (recsV b.recs) = recsV b.recs := Cl.sl (ClL.recs _)
  refine tri_loopG (ι := EnI b) (fun a => ⟨[(51, .int .i64 a.i), (50, .int .i64 b.recs.length), (49, recsV b.recs), (6, .sl (.tok 3 a.s) 0 (u8s (b.head ++ recsB (b.recs.take a.i) b.first b.base))), (3, .int .i64 b.first), (1, .ptr 0 0)], [(3, .tip a.s), (0, batO b)], 4, 109⟩) (fun a => b.recs.length - a.i) ⟨0, s7, Nat.zero_le _⟩ (WkG.of rfl rfl ⟨Le.refl _ _, Le.of_eq (congrArg (fun n : Nat => AV.int .i64 n) (recs_length _)), Le.refl _ _, Le.of_eq (congrArg (AV.sl _ 0) hhead), Le.refl _ _, Le.refl _ _, trivial⟩ ⟨⟨_, rfl, LeO.refl _ _⟩, ⟨_, rfl, LeO.refl _ _⟩, trivial⟩ ⟨rfl, rfl, cl _, Cl.bsT (by decide) _, rfl, rfl, trivial⟩ ⟨⟨by decide, rfl⟩, ⟨by decide, renO_batO _ _⟩, trivial⟩) ?_
  intro a
  have hi := a.hi
  have hlen := recs_take_len hb a.i
  have hhl := head_len b
  conv => arg 4; whnf
  refine ⟨fun h => ?_, fun h => ?_⟩
  · have hi : a.i < b.recs.length := by simp at h; omega
    obtain ⟨x, hx⟩ : ∃ x, b.recs[a.i]? = some x := ⟨_, List.getElem?_eq_getElem hi⟩
    have hg := recs_get hx
    have hxf := hb.recs x (List.mem_of_getElem? hx)
    have hbl := body_len hb hxf
    have hxk := hxf
    unfold Rec.fine at hxk
    have hpl := put_len (n := (x.body b.first b.base).length) (by unfold I64; omega)
    have x1 : IntKind.i64.wrap (x.time - b.first) = x.time - b.first := by rw [IntKind.wrap_i64]; omega
    have x2 : IntKind.i64.wrap (x.off - b.base) = x.off - b.base := by rw [IntKind.wrap_i64]; omega
    conv => arg 4; whnf
    refine ⟨x.av, ⟨by omega, hg⟩, ?_⟩
    (conv => arg 4; whnf); repeat (refine ⟨rfl, ?_⟩; conv => arg 4; whnf)
    have y1 : I64 (x.time - b.first) := by unfold I64; omega
    have y2 : I64 (x.off - b.base) := by unfold I64; omega
    refine holds_args (args' := [.int .i64 (x.time - b.first)]) ⟨Le.of_eq (congrArg _ x1), trivial⟩ ?_
    refine call0 (numPut y1) (ClL.cons (Cl.int _ _) ClL.nil) (Cl.bs _) ?_
    (conv => arg 4; whnf); repeat (refine ⟨rfl, ?_⟩; conv => arg 4; whnf)
    refine holds_args (args' := [.int .i64 (x.off - b.base)]) ⟨Le.of_eq (congrArg _ x2), trivial⟩ ?_
    refine call0 (numPut y2) (ClL.cons (Cl.int _ _) ClL.nil) (Cl.bs _) ?_
    (conv => arg 4; whnf); repeat (refine ⟨rfl, ?_⟩; conv => arg 4; whnf)
    refine call0 (batText (has := x.hk) (l := x.key) (by omega)) (ClL.cons (Cl.bool _) (ClL.cons (Cl.bs _) ClL.nil)) (Cl.bs _) ?_
    (conv => arg 4; whnf); repeat (refine ⟨rfl, ?_⟩; conv => arg 4; whnf)
    refine call0 (batText (has := x.hv) (l := x.val) (by omega)) (ClL.cons (Cl.bool _) (ClL.cons (Cl.bs _) ClL.nil)) (Cl.bs _) ?_
    (conv => arg 4; whnf); repeat (refine ⟨rfl, ?_⟩; conv => arg 4; whnf)
    have hbody : [put (x.time - b.first), put (x.off - b.base), opt x.hk x.key, opt x.hv x.val].flatten = x.body b.first b.base := by simp [Rec.body]
    refine holds_args (args' := [.sl .none 0 (blsL [put (x.time - b.first), put (x.off - b.base), opt x.hk x.key, opt x.hv x.val])]) ⟨Le.none, trivial⟩ ?_
    have cc := concat (ls := [put (x.time - b.first), put (x.off - b.base), opt x.hk x.key, opt x.hv x.val]) (by simp) (by rw [hbody]; omega)
    rw [hbody] at cc
    refine callT cc (ClL.cons (Cl.sl (ClL.bls _)) ClL.nil) (ClL.u8s _) fun s8 => ?_
    (conv => arg 4; whnf); repeat (refine ⟨rfl, ?_⟩; conv => arg 4; whnf)
    refine holds_args (args' := [.int .i64 (x.body b.first b.base).length]) ⟨Le.of_eq (congrArg (fun n : Nat => AV.int .i64 n) (u8s_length _)), trivial⟩ ?_
    refine call0 (numPut (by unfold I64; omega)) (ClL.cons (Cl.int _ _) ClL.nil) (Cl.bs _) ?_
    (conv => arg 4; whnf); repeat (refine ⟨rfl, ?_⟩; conv => arg 4; whnf)
    refine ⟨⟨rfl, sizeOk 1 rfl ?_⟩, ?_⟩
    · rw [List.length_append, u8s_length, u8s_length, List.length_append]; omega
    (conv => arg 4; whnf); repeat (refine ⟨rfl, ?_⟩; conv => arg 4; whnf)
    refine ⟨⟨rfl, sizeOk 1 rfl ?_⟩, ?_⟩
    · rw [List.length_append, List.length_append, u8s_length, u8s_length, u8s_length, List.length_append]; omega
    (conv => arg 4; whnf); repeat (refine ⟨rfl, ?_⟩; conv => arg 4; whnf)
    refine ⟨⟨a.i + 1, a.s + 2, hi⟩, by show b.recs.length - (a.i + 1) < b.recs.length - a.i; omega, WkG.of rfl rfl ⟨Le.of_eq (succ_int (by omega)), Le.refl _ _, Le.refl _ _, Le.of_eq (congrArg (AV.sl _ 0) ?_), Le.refl _ _, Le.refl _ _, trivial⟩ ⟨⟨_, rfl, LeO.refl _ _⟩, ⟨_, rfl, LeO.refl _ _⟩, trivial⟩ ⟨rfl, rfl, cl _, Cl.bsT (by decide) _, rfl, rfl, trivial⟩ ⟨⟨by decide, rfl⟩, ⟨by decide, renO_batO _ _⟩, trivial⟩⟩
    rw [← u8s_append, ← u8s_append, recs_take hx]
    simp [lenB]
  · have hi : a.i = b.recs.length := by simp at h; omega
    have hrest : b.head ++ recsB (b.recs.take a.i) b.first b.base = b.rest := by rw [hi, List.take_length]; rfl
    rw [hrest]
    have hrl := rest_len hb
    have hcs := crcSum_range b.rest
    conv => arg 4; whnf
    refine fin_exit ?_
    show holds _ _ _ _
    conv => arg 4; whnf
    refine holds_wnew 4 0 [.bl false] [.bool false] rfl (LeL.cons Le.bl (LeL.nil _)) (by decide) ?_
    refine callWE 4 5 (wFixedT (l := []) (n := b.base) (size := 8) (by unfold I64; omega) (fits8 (by omega)) (by simp [fixed_len])) (by decide) (by decide) rfl rfl (ClL.u8s _) (ClL.cons (Cl.bool _) ClL.nil) (ClL.u8s _) (ClL.cons (Cl.bool _) ClL.nil) rfl rfl fun s9 => ?_
    (conv => arg 4; whnf); repeat (refine ⟨rfl, ?_⟩; conv => arg 4; whnf)
    have w2 : IntKind.i64.wrap (((u8s b.rest).length : Int) + 4) = ((b.rest.length + 4 : Nat) : Int) := by rw [u8s_length, IntKind.wrap_i64]; omega
    refine holds_args (args' := [.ptr 4 0, .int .i64 ((b.rest.length + 4 : Nat) : Int), .int .i64 4]) ⟨Le.refl _ _, Le.of_eq (congrArg _ w2), Le.refl _ _, trivial⟩ ?_
    refine callWE 4 5 (wFixedT (n := ((b.rest.length + 4 : Nat) : Int)) (size := 4) (by unfold I64; omega) (fits4 (by omega) (by omega)) (by simp [fixed_len])) (by decide) (by decide) rfl rfl (ClL.u8s _) (ClL.cons (Cl.bool _) ClL.nil) (ClL.u8s _) (ClL.cons (Cl.bool _) ClL.nil) rfl rfl fun s10 => ?_
    (conv => arg 4; whnf); repeat (refine ⟨rfl, ?_⟩; conv => arg 4; whnf)
    have w3 : IntKind.i64.wrap (crcSum b.rest : Int) = ((crcSum b.rest : Nat) : Int) := by rw [IntKind.wrap_i64]; omega
    refine holds_args (args' := [.sl .none 0 [bs b.rest]]) ⟨Le.slL (LeL.cons Le.none (LeL.nil _)) (fun h => (by cases h)), trivial⟩ (call0 (crcSumC (by omega)) (ClL.cons (Cl.sl (ClL.cons (Cl.bs _) ClL.nil)) ClL.nil) (Cl.int _ _) ?_)
    (conv => arg 4; whnf); repeat (refine ⟨rfl, ?_⟩; conv => arg 4; whnf)
    refine holds_args (args' := [.ptr 4 0, .int .i64 ((crcSum b.rest : Nat) : Int), .int .i64 4]) ⟨Le.refl _ _, Le.of_eq (congrArg _ w3), Le.refl _ _, trivial⟩ ?_
    refine callWE 4 5 (wFixedT (n := ((crcSum b.rest : Nat) : Int)) (size := 4) (by unfold I64; omega) (fits4 (by omega) (by omega)) (by simp [fixed_len])) (by decide) (by decide) rfl rfl (ClL.u8s _) (ClL.cons (Cl.bool _) ClL.nil) (ClL.u8s _) (ClL.cons (Cl.bool _) ClL.nil) rfl rfl fun s11 => ?_
    (conv => arg 4; whnf); repeat (refine ⟨rfl, ?_⟩; conv => arg 4; whnf)
    refine callWD 4 5 (wDoneT (by simp [fixed_len])) (by decide) (by decide) rfl rfl (ClL.u8s _) (ClL.cons (Cl.bool _) ClL.nil) (ClL.u8s _) (ClL.cons (Cl.bool _) ClL.nil) (ClL.u8s _) (ClL.cons (Cl.bl _) ClL.nil) rfl fun s12 => ?_
    (conv => arg 4; whnf); repeat (refine ⟨rfl, ?_⟩; conv => arg 4; whnf)
    refine ⟨⟨by first | rfl | trivial, sizeOk 1 rfl ?_⟩, ?_⟩
    · simp only [List.length_append, u8s_length, fixed_len, List.length_nil]; omega
    (conv => arg 4; whnf); repeat (refine ⟨rfl, ?_⟩; conv => arg 4; whnf)
    refine ⟨by decide, Le.noneOf ?_, trivial, (Cl.bs _) _, trivial⟩
    rw [← u8s_append]
    simp only [List.nil_append, Bat.enc, Int.toNat_natCast]
    rfl
end Go.Proofs.Ythclmkhkchbpiaa

namespace Go.Proofs.Ythclmkhkchbpiaa
set_option maxRecDepth 100000
set_option maxHeartbeats 80000000
open Go.Sym

/-- Why one of the records may not be, the first that may not. -/
noncomputable def recsE (b : Bat) : List Rec → Int → Int
  | [], _ => 0
  | r :: l, prev => if recE r b.base b.last prev ≠ 0 then recE r b.base b.last prev else recsE b l r.off
open Classical in
noncomputable def Bat.chk (b : Bat) : Int :=
  if HeadBad b then 1 else if 100 < b.recs.length then 3 else if recsE b b.recs (-1) ≠ 0 then recsE b b.recs (-1) else if 65536 < b.enc.length then 3 else 0

theorem recE_fine {r : Rec} {b : Bat} {prev : Int} (h : recE r b.base b.last prev = 0) : r.fine b ∧ prev < r.off ∧ (r.hk = false → r.key = []) ∧ (r.hv = false → r.val = []) := by
  by_cases h1 : RecBad r b.base b.last prev
  · rw [recE_bad h1] at h; omega
  · by_cases h2 : RecBig r
    · rw [recE_big h1 h2] at h; omega
    · unfold RecBad at h1
      unfold RecBig at h2
      unfold Rec.fine
      refine ⟨by omega, by omega, fun e => ?_, fun e => ?_⟩
      · have : ¬ (r.hk = false ∧ (0 : Int) < r.key.length) := fun x => h1 (.inl (.inr x))
        exact List.eq_nil_of_length_eq_zero (by have h7 : ¬ (0 : Int) < _ := fun k => this ⟨e, k⟩; omega)
      · have : ¬ (r.hv = false ∧ (0 : Int) < r.val.length) := fun x => h1 (.inr x)
        exact List.eq_nil_of_length_eq_zero (by have h7 : ¬ (0 : Int) < _ := fun k => this ⟨e, k⟩; omega)
theorem recsE_fine {b : Bat} : ∀ {l : List Rec} {prev : Int}, recsE b l prev = 0 → ∀ r ∈ l, r.fine b
  | [], _, _ => fun r hr => by cases hr
  | x :: l, prev, h => fun r hr => by
    unfold recsE at h
    by_cases h0 : recE x b.base b.last prev = 0
    · rw [if_neg (by simp [h0])] at h
      rcases List.mem_cons.1 hr with rfl | hr
      · exact (recE_fine h0).1
      · exact recsE_fine h r hr
    · rw [if_pos h0] at h; exact absurd h h0
theorem fine_of {b : Bat} (h1 : ¬ HeadBad b) (h2 : b.recs.length ≤ 100) (h3 : recsE b b.recs (-1) = 0) : b.fine := ⟨h1, h2, recsE_fine h3⟩
theorem chk_head {b : Bat} (h : HeadBad b) : b.chk = 1 := by rw [Bat.chk, if_pos h]
theorem chk_many {b : Bat} (h : ¬ HeadBad b) (h2 : 100 < b.recs.length) : b.chk = 3 := by rw [Bat.chk, if_neg h, if_pos h2]
theorem chk_rec {b : Bat} (h : ¬ HeadBad b) (h2 : ¬ 100 < b.recs.length) (h3 : recsE b b.recs (-1) ≠ 0) : b.chk = recsE b b.recs (-1) := by rw [Bat.chk, if_neg h, if_neg h2, if_pos h3]
theorem chk_big {b : Bat} (h : ¬ HeadBad b) (h2 : ¬ 100 < b.recs.length) (h3 : recsE b b.recs (-1) = 0) (h4 : 65536 < b.enc.length) : b.chk = 3 := by rw [Bat.chk, if_neg h, if_neg h2, if_neg (by simp [h3]), if_pos h4]
theorem chk_ok {b : Bat} (h : ¬ HeadBad b) (h2 : ¬ 100 < b.recs.length) (h3 : recsE b b.recs (-1) = 0) (h4 : ¬ 65536 < b.enc.length) : b.chk = 0 := by rw [Bat.chk, if_neg h, if_neg h2, if_neg (by simp [h3]), if_neg h4]
theorem chk_fine {b : Bat} (h : b.chk = 0) : b.fine ∧ b.enc.length ≤ 65536 ∧ recsE b b.recs (-1) = 0 := by
  by_cases h1 : HeadBad b
  · rw [chk_head h1] at h; omega
  by_cases h2 : 100 < b.recs.length
  · rw [chk_many h1 h2] at h; omega
  by_cases h3 : recsE b b.recs (-1) = 0
  · by_cases h4 : 65536 < b.enc.length
    · rw [chk_big h1 h2 h3 h4] at h; omega
    · exact ⟨fine_of h1 (by omega) h3, by omega, h3⟩
  · rw [chk_rec h1 h2 h3] at h; exact absurd h h3

structure CkI (b : Bat) where
  i : Nat
  prev : Int
  hi : i ≤ b.recs.length
  h : recsE b (b.recs.drop i) prev = recsE b b.recs (-1)

theorem recsE_drop {b : Bat} {i : Nat} {x : Rec} {prev : Int} (hx : b.recs[i]? = some x) : recsE b (b.recs.drop i) prev = if recE x b.base b.last prev ≠ 0 then recE x b.base b.last prev else recsE b (b.recs.drop (i + 1)) x.off := by
  have hi : i < b.recs.length := by
    rcases Nat.lt_or_ge i b.recs.length with h | h
    · exact h
    · simp [List.getElem?_eq_none h] at hx
  have : b.recs.drop i = x :: b.recs.drop (i + 1) := by
    rw [List.drop_eq_getElem_cons hi]
    simp [List.getElem?_eq_getElem hi] at hx
    rw [hx]
  rw [this]
  rfl

theorem refCheck {b : Bat} (hl : b.recs.length ≤ 1000000) : CallOK Try.prog 46 [b.av] [] 0 (Out (.int .i64 b.chk) [] 0) := by
  refine CallOK.fit (by decide) ?_
  refine callOK Try.call46 Try.func46 Try.ntmps46 rfl ?_
  conv => arg 4; whnf
  refine ⟨fun h => ?_, fun h => ?_⟩
  · simp only [Bool.cond_true_left, Bool.cond_false_right, Bool.or_eq_true, Bool.and_eq_true, Bool.not_eq_true', decide_eq_true_eq, beq_iff_eq, bne_iff_ne, u8s_length, Bool.not_eq_true, gt_iff_lt, ge_iff_le] at h
    have hb : HeadBad b := by unfold HeadBad; omega
    conv => arg 4; whnf
    refine ⟨by decide, Le.of_eq ?_, trivial, (Cl.int _ _) _, trivial⟩
    exact congrArg _ (chk_head hb).symm
  · rw [← Bool.not_eq_true] at h; simp only [Bool.cond_true_left, Bool.cond_false_right, Bool.or_eq_true, Bool.and_eq_true, Bool.not_eq_true', decide_eq_true_eq, beq_iff_eq, bne_iff_ne, u8s_length, gt_iff_lt, ge_iff_le] at h
    have hb : ¬ HeadBad b := by unfold HeadBad; omega
    conv => arg 4; whnf
    refine ⟨fun h2 => ?_, fun h2 => ?_⟩
    · have h2 : 100 < b.recs.length := by rw [recs_length] at h2; simp at h2; omega
      conv => arg 4; whnf
      refine ⟨by decide, Le.of_eq ?_, trivial, (Cl.int _ _) _, trivial⟩
      exact congrArg _ (chk_many hb h2).symm
    · have h2 : ¬ 100 < b.recs.length := by rw [recs_length] at h2; simp at h2; omega
      conv => arg 4; whnf
      refine tri_loopG (ι := CkI b) (fun a => ⟨[(4, .int .i64 a.i), (3, .int .i64 a.prev), (1, .ptr 0 0)], [(0, batO b)], 1, 103⟩) (fun a => b.recs.length - a.i) ⟨0, -1, Nat.zero_le _, rfl⟩ (WkG.of rfl rfl ⟨Le.refl _ _, Le.refl _ _, Le.refl _ _, trivial⟩ ⟨⟨_, rfl, LeO.refl _ _⟩, trivial⟩ ⟨rfl, rfl, rfl, trivial⟩ ⟨⟨by decide, renO_batO _ _⟩, trivial⟩) ?_
      rintro ⟨i, prev, hi, hc⟩
      dsimp only
      conv => arg 4; whnf
      refine ⟨fun h => ?_, fun h => ?_⟩
      · have hi' : i < b.recs.length := by rw [recs_length] at h; simp at h; omega
        obtain ⟨x, hx⟩ : ∃ x, b.recs[i]? = some x := ⟨_, List.getElem?_eq_getElem hi'⟩
        have hg := recs_get hx
        rw [recsE_drop hx] at hc
        conv => arg 4; whnf
        refine ⟨x.av, ⟨by omega, hg⟩, ?_⟩
        (conv => arg 4; whnf); repeat (refine ⟨rfl, ?_⟩; conv => arg 4; whnf)
        refine call0 (refRec (r := x) (b := b) (prev := prev)) (ClL.cons (Cl.rec x) (ClL.cons (Cl.bat b) (ClL.cons (Cl.int _ _) ClL.nil))) (Cl.int _ _) ?_
        (conv => arg 4; whnf); repeat (refine ⟨rfl, ?_⟩; conv => arg 4; whnf)
        refine ⟨fun h0 => ?_, fun h0 => ?_⟩
        · have h0 : recE x b.base b.last prev ≠ 0 := by simpa using h0
          rw [if_pos h0] at hc
          (conv => arg 4; whnf); repeat (refine ⟨rfl, ?_⟩; conv => arg 4; whnf)
          refine ⟨by decide, Le.of_eq ?_, trivial, (Cl.int _ _) _, trivial⟩
          refine congrArg _ ?_
          rw [chk_rec hb h2 (by rw [← hc]; exact h0)]
          exact hc
        · have h0 : recE x b.base b.last prev = 0 := by simpa using h0
          rw [if_neg (by simp [h0])] at hc
          (conv => arg 4; whnf); repeat (refine ⟨rfl, ?_⟩; conv => arg 4; whnf)
          refine ⟨x.av, ⟨by omega, hg⟩, ?_⟩
          (conv => arg 4; whnf); repeat (refine ⟨rfl, ?_⟩; conv => arg 4; whnf)
          exact ⟨⟨i + 1, x.off, hi', hc⟩, by show b.recs.length - (i + 1) < b.recs.length - i; omega, WkG.of rfl rfl ⟨Le.of_eq (succ_int (by omega)), Le.refl _ _, Le.refl _ _, trivial⟩ ⟨⟨_, rfl, LeO.refl _ _⟩, trivial⟩ ⟨rfl, rfl, rfl, trivial⟩ ⟨⟨by decide, renO_batO _ _⟩, trivial⟩⟩
      · have hi' : i = b.recs.length := by rw [recs_length] at h; simp at h; omega
        rw [hi', List.drop_length] at hc
        have hc : recsE b b.recs (-1) = 0 := hc.symm
        have hf := fine_of hb (by omega) hc
        conv => arg 4; whnf
        refine fin_exit ?_
        show holds _ _ _ _
        conv => arg 4; whnf
        refine call0 (refEncode hf) (ClL.cons (Cl.bat b) ClL.nil) (Cl.bs _) ?_
        (conv => arg 4; whnf); repeat (refine ⟨rfl, ?_⟩; conv => arg 4; whnf)
        refine ⟨fun h4 => ?_, fun h4 => ?_⟩
        · have h4 : 65536 < b.enc.length := by rw [u8s_length] at h4; simp at h4; omega
          (conv => arg 4; whnf); repeat (refine ⟨rfl, ?_⟩; conv => arg 4; whnf)
          refine ⟨by decide, Le.of_eq ?_, trivial, (Cl.int _ _) _, trivial⟩
          exact congrArg _ (chk_big hb h2 hc h4).symm
        · have h4 : ¬ 65536 < b.enc.length := by rw [u8s_length] at h4; simp at h4; omega
          (conv => arg 4; whnf); repeat (refine ⟨rfl, ?_⟩; conv => arg 4; whnf)
          refine ⟨by decide, Le.of_eq ?_, trivial, (Cl.int _ _) _, trivial⟩
          exact congrArg _ (chk_ok hb h2 hc h4).symm
end Go.Proofs.Ythclmkhkchbpiaa

namespace Go.Proofs.Ythclmkhkchbpiaa
set_option maxRecDepth 100000
set_option maxHeartbeats 80000000
open Go.Sym

theorem C3 {a b c : AV} (h1 : Cl a) (h2 : Cl b) (h3 : Cl c) : ClL [a, b, c] := ClL.cons h1 (ClL.cons h2 (ClL.cons h3 ClL.nil))

theorem batCheck {b : Bat} (hl : b.recs.length ≤ 1000000) : CallOK Try.prog 43 [b.av] [] 0 (Out (.int .i64 b.chk) [] 0) := by
  refine CallOK.fit (by decide) ?_
  refine callOK Try.call43 Try.func43 Try.ntmps43 rfl ?_
  conv => arg 4; whnf
  refine call0 within (C3 (Cl.int _ _) (Cl.int _ _) (Cl.int _ _)) (Cl.bool _) ?_
  (conv => arg 4; whnf); repeat (refine ⟨rfl, ?_⟩; conv => arg 4; whnf)
  refine ⟨fun h0 => ?_, fun h0 => ?_⟩
  rotate_left
  · have h0 := of_decide_eq_false h0
    (conv => arg 4; whnf); repeat (refine ⟨rfl, ?_⟩; conv => arg 4; whnf)
    refine ⟨by decide, Le.of_eq ?_, trivial, (Cl.int _ _) _, trivial⟩
    exact congrArg _ (chk_head (by unfold HeadBad; omega)).symm
  have h0 := of_decide_eq_true h0
  (conv => arg 4; whnf); repeat (refine ⟨rfl, ?_⟩; conv => arg 4; whnf)
  refine call0 within (C3 (Cl.int _ _) (Cl.int _ _) (Cl.int _ _)) (Cl.bool _) ?_
  (conv => arg 4; whnf); repeat (refine ⟨rfl, ?_⟩; conv => arg 4; whnf)
  refine ⟨fun h1 => ?_, fun h1 => ?_⟩
  rotate_left
  · have h1 := of_decide_eq_false h1
    (conv => arg 4; whnf); repeat (refine ⟨rfl, ?_⟩; conv => arg 4; whnf)
    refine ⟨by decide, Le.of_eq ?_, trivial, (Cl.int _ _) _, trivial⟩
    exact congrArg _ (chk_head (by unfold HeadBad; omega)).symm
  have h1 := of_decide_eq_true h1
  (conv => arg 4; whnf); repeat (refine ⟨rfl, ?_⟩; conv => arg 4; whnf)
  refine call0 within (C3 (Cl.int _ _) (Cl.int _ _) (Cl.int _ _)) (Cl.bool _) ?_
  (conv => arg 4; whnf); repeat (refine ⟨rfl, ?_⟩; conv => arg 4; whnf)
  refine ⟨fun h2 => ?_, fun h2 => ?_⟩
  rotate_left
  · have h2 := of_decide_eq_false h2
    (conv => arg 4; whnf); repeat (refine ⟨rfl, ?_⟩; conv => arg 4; whnf)
    refine ⟨by decide, Le.of_eq ?_, trivial, (Cl.int _ _) _, trivial⟩
    exact congrArg _ (chk_head (by unfold HeadBad; omega)).symm
  have h2 := of_decide_eq_true h2
  (conv => arg 4; whnf); repeat (refine ⟨rfl, ?_⟩; conv => arg 4; whnf)
  refine call0 within (C3 (Cl.int _ _) (Cl.int _ _) (Cl.int _ _)) (Cl.bool _) ?_
  (conv => arg 4; whnf); repeat (refine ⟨rfl, ?_⟩; conv => arg 4; whnf)
  refine ⟨fun h3 => ?_, fun h3 => ?_⟩
  rotate_left
  · have h3 := of_decide_eq_false h3
    (conv => arg 4; whnf); repeat (refine ⟨rfl, ?_⟩; conv => arg 4; whnf)
    refine ⟨by decide, Le.of_eq ?_, trivial, (Cl.int _ _) _, trivial⟩
    exact congrArg _ (chk_head (by unfold HeadBad; omega)).symm
  have h3 := of_decide_eq_true h3
  (conv => arg 4; whnf); repeat (refine ⟨rfl, ?_⟩; conv => arg 4; whnf)
  refine call0 within (C3 (Cl.int _ _) (Cl.int _ _) (Cl.int _ _)) (Cl.bool _) ?_
  (conv => arg 4; whnf); repeat (refine ⟨rfl, ?_⟩; conv => arg 4; whnf)
  refine ⟨fun h4 => ?_, fun h4 => ?_⟩
  · simp only [Bool.cond_true_left, Bool.cond_false_right, Bool.or_eq_true, Bool.and_eq_true, Bool.not_eq_true', decide_eq_true_eq, beq_iff_eq, bne_iff_ne, u8s_length, Bool.not_eq_true, gt_iff_lt, ge_iff_le] at h4
    simp only [decide_eq_false_iff_not] at h4
    (conv => arg 4; whnf); repeat (refine ⟨rfl, ?_⟩; conv => arg 4; whnf)
    refine ⟨by decide, Le.of_eq ?_, trivial, (Cl.int _ _) _, trivial⟩
    exact congrArg _ (chk_head (by unfold HeadBad; omega)).symm
  · rw [← Bool.not_eq_true] at h4; simp only [Bool.cond_true_left, Bool.cond_false_right, Bool.or_eq_true, Bool.and_eq_true, Bool.not_eq_true', decide_eq_true_eq, beq_iff_eq, bne_iff_ne, u8s_length, gt_iff_lt, ge_iff_le] at h4
    simp only [decide_eq_false_iff_not] at h4
    have hb : ¬ HeadBad b := by unfold HeadBad; omega
    (conv => arg 4; whnf); repeat (refine ⟨rfl, ?_⟩; conv => arg 4; whnf)
    refine ⟨fun h2 => ?_, fun h2 => ?_⟩
    · have h2 : 100 < b.recs.length := by rw [recs_length] at h2; simp at h2; omega
      (conv => arg 4; whnf); repeat (refine ⟨rfl, ?_⟩; conv => arg 4; whnf)
      refine ⟨by decide, Le.of_eq ?_, trivial, (Cl.int _ _) _, trivial⟩
      exact congrArg _ (chk_many hb h2).symm
    · have h2 : ¬ 100 < b.recs.length := by rw [recs_length] at h2; simp at h2; omega
      (conv => arg 4; whnf); repeat (refine ⟨rfl, ?_⟩; conv => arg 4; whnf)
      have cl : ∀ ρ, ren ρ (recsV b.recs) = recsV b.recs := Cl.sl (ClL.recs _)
      refine tri_loopG (ι := CkI b) (fun a => ⟨[(59, .int .i64 a.i), (58, .int .i64 b.recs.length), (57, recsV b.recs), (4, .int .i64 a.prev), (1, .ptr 0 0)], [(0, batO b)], 1, 77⟩) (fun a => b.recs.length - a.i) ⟨0, -1, Nat.zero_le _, rfl⟩ (WkG.of rfl rfl ⟨Le.refl _ _, Le.of_eq (congrArg (fun n : Nat => AV.int .i64 n) (recs_length _)), Le.refl _ _, Le.refl _ _, Le.refl _ _, trivial⟩ ⟨⟨_, rfl, LeO.refl _ _⟩, trivial⟩ ⟨rfl, rfl, cl _, rfl, rfl, trivial⟩ ⟨⟨by decide, renO_batO _ _⟩, trivial⟩) ?_
      rintro ⟨i, prev, hi, hc⟩
      dsimp only
      conv => arg 4; whnf
      refine ⟨fun h => ?_, fun h => ?_⟩
      · have hi' : i < b.recs.length := by simp at h; omega
        obtain ⟨x, hx⟩ : ∃ x, b.recs[i]? = some x := ⟨_, List.getElem?_eq_getElem hi'⟩
        have hg := recs_get hx
        rw [recsE_drop hx] at hc
        conv => arg 4; whnf
        refine ⟨x.av, ⟨by omega, hg⟩, ?_⟩
        (conv => arg 4; whnf); repeat (refine ⟨rfl, ?_⟩; conv => arg 4; whnf)
        refine call0 (batRec (r := x) (b := b) (prev := prev)) (C3 (Cl.rec x) (Cl.bat b) (Cl.int _ _)) (Cl.int _ _) ?_
        (conv => arg 4; whnf); repeat (refine ⟨rfl, ?_⟩; conv => arg 4; whnf)
        refine ⟨fun h0 => ?_, fun h0 => ?_⟩
        · have h0 : recE x b.base b.last prev ≠ 0 := by simpa using h0
          rw [if_pos h0] at hc
          (conv => arg 4; whnf); repeat (refine ⟨rfl, ?_⟩; conv => arg 4; whnf)
          refine ⟨by decide, Le.of_eq ?_, trivial, (Cl.int _ _) _, trivial⟩
          refine congrArg _ ?_
          rw [chk_rec hb h2 (by rw [← hc]; exact h0)]
          exact hc
        · have h0 : recE x b.base b.last prev = 0 := by simpa using h0
          rw [if_neg (by simp [h0])] at hc
          (conv => arg 4; whnf); repeat (refine ⟨rfl, ?_⟩; conv => arg 4; whnf)
          exact ⟨⟨i + 1, x.off, hi', hc⟩, by show b.recs.length - (i + 1) < b.recs.length - i; omega, WkG.of rfl rfl ⟨Le.of_eq (succ_int (by omega)), Le.refl _ _, Le.refl _ _, Le.refl _ _, Le.refl _ _, trivial⟩ ⟨⟨_, rfl, LeO.refl _ _⟩, trivial⟩ ⟨rfl, rfl, cl _, rfl, rfl, trivial⟩ ⟨⟨by decide, renO_batO _ _⟩, trivial⟩⟩
      · have hi' : i = b.recs.length := by simp at h; omega
        rw [hi', List.drop_length] at hc
        have hc : recsE b b.recs (-1) = 0 := hc.symm
        have hf := fine_of hb (by omega) hc
        conv => arg 4; whnf
        refine fin_exit ?_
        show holds _ _ _ _
        conv => arg 4; whnf
        refine call0 (batWritten hf) (ClL.cons (Cl.bat b) ClL.nil) (Cl.bs _) ?_
        (conv => arg 4; whnf); repeat (refine ⟨rfl, ?_⟩; conv => arg 4; whnf)
        refine ⟨fun h4 => ?_, fun h4 => ?_⟩
        · have h4 : 65536 < b.enc.length := by rw [u8s_length] at h4; simp at h4; omega
          (conv => arg 4; whnf); repeat (refine ⟨rfl, ?_⟩; conv => arg 4; whnf)
          refine ⟨by decide, Le.of_eq ?_, trivial, (Cl.int _ _) _, trivial⟩
          exact congrArg _ (chk_big hb h2 hc h4).symm
        · have h4 : ¬ 65536 < b.enc.length := by rw [u8s_length] at h4; simp at h4; omega
          (conv => arg 4; whnf); repeat (refine ⟨rfl, ?_⟩; conv => arg 4; whnf)
          refine ⟨by decide, Le.of_eq ?_, trivial, (Cl.int _ _) _, trivial⟩
          exact congrArg _ (chk_ok hb h2 hc h4).symm
end Go.Proofs.Ythclmkhkchbpiaa

namespace Go.Proofs.Ythclmkhkchbpiaa
set_option maxRecDepth 100000
set_option maxHeartbeats 80000000
open Go.Sym

noncomputable def Bat.out (b : Bat) : List UInt8 := if b.chk = 0 then b.enc else []
noncomputable def encA (b : Bat) : AV := .tup [bs b.out, .int .i64 b.chk]
theorem Cl.encA (b : Bat) : Cl (encA b) := Cl.tup (ClL.cons (Cl.bs _) (ClL.cons (Cl.int _ _) ClL.nil))
theorem out_yes {b : Bat} (h : b.chk = 0) : b.out = b.enc := by rw [Bat.out, if_pos h]
theorem out_no {b : Bat} (h : b.chk ≠ 0) : b.out = [] := by rw [Bat.out, if_neg h]
theorem encA_yes {b : Bat} (h : b.chk = 0) : Go.Proofs.Ythclmkhkchbpiaa.encA b = .tup [bs b.enc, .int .i64 0] := by unfold Go.Proofs.Ythclmkhkchbpiaa.encA; rw [out_yes h, h]
theorem encA_no {b : Bat} (h : b.chk ≠ 0) : Go.Proofs.Ythclmkhkchbpiaa.encA b = .tup [.sl .none 0 [], .int .i64 b.chk] := by unfold Go.Proofs.Ythclmkhkchbpiaa.encA; rw [out_no h]; rfl

theorem refEnc {b : Bat} (hl : b.recs.length ≤ 1000000) : CallOK Try.prog 50 [b.av] [] 0 (Out (encA b) [] 0) := by
  refine CallOK.fit (by decide) ?_
  refine callOK Try.call50 Try.func50 Try.ntmps50 rfl ?_
  conv => arg 4; whnf
  refine call0 (refCheck hl) (ClL.cons (Cl.bat b) ClL.nil) (Cl.int _ _) ?_
  (conv => arg 4; whnf); repeat (refine ⟨rfl, ?_⟩; conv => arg 4; whnf)
  refine ⟨fun h => ?_, fun h => ?_⟩
  · have h : b.chk ≠ 0 := by simpa using h
    (conv => arg 4; whnf); repeat (refine ⟨rfl, ?_⟩; conv => arg 4; whnf)
    refine ⟨by decide, ?_, trivial, Cl.encA b _, trivial⟩
    rw [encA_no h]
    exact Le.tup (LeL.cons Le.nils (LeL.cons (Le.refl _ _) (LeL.nil _)))
  · have h : b.chk = 0 := by simpa using h
    (conv => arg 4; whnf); repeat (refine ⟨rfl, ?_⟩; conv => arg 4; whnf)
    refine call0 (refEncode (chk_fine h).1) (ClL.cons (Cl.bat b) ClL.nil) (Cl.bs _) ?_
    (conv => arg 4; whnf); repeat (refine ⟨rfl, ?_⟩; conv => arg 4; whnf)
    refine ⟨by decide, ?_, trivial, Cl.encA b _, trivial⟩
    rw [encA_yes h]
    exact Le.tup (LeL.cons Le.none (LeL.cons (Le.refl _ _) (LeL.nil _)))

theorem batEnc {b : Bat} (hl : b.recs.length ≤ 1000000) : CallOK Try.prog 47 [b.av] [] 0 (Out (encA b) [] 0) := by
  refine CallOK.fit (by decide) ?_
  refine callOK Try.call47 Try.func47 Try.ntmps47 rfl ?_
  conv => arg 4; whnf
  refine call0 (batCheck hl) (ClL.cons (Cl.bat b) ClL.nil) (Cl.int _ _) ?_
  (conv => arg 4; whnf); repeat (refine ⟨rfl, ?_⟩; conv => arg 4; whnf)
  refine ⟨fun h => ?_, fun h => ?_⟩
  · have h : b.chk ≠ 0 := by simpa using h
    (conv => arg 4; whnf); repeat (refine ⟨rfl, ?_⟩; conv => arg 4; whnf)
    refine ⟨by decide, ?_, trivial, Cl.encA b _, trivial⟩
    rw [encA_no h]
    exact Le.tup (LeL.cons Le.nils (LeL.cons (Le.refl _ _) (LeL.nil _)))
  · have h : b.chk = 0 := by simpa using h
    (conv => arg 4; whnf); repeat (refine ⟨rfl, ?_⟩; conv => arg 4; whnf)
    refine call0 (batWritten (chk_fine h).1) (ClL.cons (Cl.bat b) ClL.nil) (Cl.bs _) ?_
    (conv => arg 4; whnf); repeat (refine ⟨rfl, ?_⟩; conv => arg 4; whnf)
    refine ⟨by decide, ?_, trivial, Cl.encA b _, trivial⟩
    rw [encA_yes h]
    exact Le.tup (LeL.cons Le.none (LeL.cons (Le.refl _ _) (LeL.nil _)))

theorem refSize {b : Bat} (hl : b.recs.length ≤ 1000000) : CallOK Try.prog 57 [b.av] [] 0 (Out (.int .i64 (b.out.length : Nat)) [] 0) := by
  refine CallOK.fit (by decide) ?_
  refine callOK Try.call57 Try.func57 Try.ntmps57 rfl ?_
  conv => arg 4; whnf
  refine call0 (refEnc hl) (ClL.cons (Cl.bat b) ClL.nil) (Cl.encA b) ?_
  (conv => arg 4; whnf); repeat (refine ⟨rfl, ?_⟩; conv => arg 4; whnf)
  refine ⟨by decide, Le.of_eq ?_, trivial, (Cl.int _ _) _, trivial⟩
  exact congrArg (fun n : Nat => AV.int .i64 n) (u8s_length _)

theorem batSize {b : Bat} (hl : b.recs.length ≤ 1000000) : CallOK Try.prog 44 [b.av] [] 0 (Out (.int .i64 (b.out.length : Nat)) [] 0) := by
  refine CallOK.fit (by decide) ?_
  refine callOK Try.call44 Try.func44 Try.ntmps44 rfl ?_
  conv => arg 4; whnf
  refine call0 (batEnc hl) (ClL.cons (Cl.bat b) ClL.nil) (Cl.encA b) ?_
  (conv => arg 4; whnf); repeat (refine ⟨rfl, ?_⟩; conv => arg 4; whnf)
  refine ⟨by decide, Le.of_eq ?_, trivial, (Cl.int _ _) _, trivial⟩
  exact congrArg (fun n : Nat => AV.int .i64 n) (u8s_length _)
end Go.Proofs.Ythclmkhkchbpiaa

namespace Go.Proofs.Ythclmkhkchbpiaa
set_option maxRecDepth 100000
set_option maxHeartbeats 80000000
open Go.Sym

theorem bytesEqual {a b : List UInt8} : CallOK Try.prog 101 [bs a, bs b] [] 0 (Out (.bool (a == b)) [] 0) := by
  refine callOK Try.call101 Try.func101 Try.ntmps101 rfl ?_
  conv => arg 4; whnf
  refine ⟨a, rfl, ?_⟩
  conv => arg 4; whnf
  refine ⟨b, rfl, ?_⟩
  conv => arg 4; whnf
  exact ⟨rfl, rfl, rfl⟩

theorem rec_eq {a b : Rec} : decide (a = b) = (bif bif bif bif bif a.off == b.off then a.time == b.time else false then a.hk == b.hk else false then a.hv == b.hv else false then a.key == b.key else false then a.val == b.val else false) := by
  cases a; cases b
  simp only [Rec.mk.injEq]
  rw [Bool.eq_iff_iff]
  simp only [decide_eq_true_eq, Bool.cond_false_right, Bool.and_eq_true, beq_iff_eq]
  constructor
  · rintro ⟨h1, h2, h3, h4, h5, h6⟩; exact ⟨⟨⟨⟨⟨h1, h2⟩, h3⟩, h5⟩, h4⟩, h6⟩
  · rintro ⟨⟨⟨⟨⟨h1, h2⟩, h3⟩, h5⟩, h4⟩, h6⟩; exact ⟨h1, h2, h3, h4, h5, h6⟩

theorem batSameRec {a b : Rec} : CallOK Try.prog 89 [a.av, b.av] [] 0 (Out (.bool (decide (a = b))) [] 0) := by
  refine CallOK.fit (by decide) ?_
  refine callOK Try.call89 Try.func89 Try.ntmps89 rfl ?_
  rw [rec_eq]
  conv => arg 4; whnf
  refine ⟨fun h => ?_, fun h => ?_⟩
  · rw [h]
    (conv => arg 4; whnf); repeat (refine ⟨rfl, ?_⟩; conv => arg 4; whnf)
    refine call0 bytesEqual (ClL.cons (Cl.bs _) (ClL.cons (Cl.bs _) ClL.nil)) (Cl.bool _) ?_
    (conv => arg 4; whnf); repeat (refine ⟨rfl, ?_⟩; conv => arg 4; whnf)
    refine ⟨fun h2 => ?_, fun h2 => ?_⟩
    · rw [h2]
      (conv => arg 4; whnf); repeat (refine ⟨rfl, ?_⟩; conv => arg 4; whnf)
      refine call0 bytesEqual (ClL.cons (Cl.bs _) (ClL.cons (Cl.bs _) ClL.nil)) (Cl.bool _) ?_
      (conv => arg 4; whnf); repeat (refine ⟨rfl, ?_⟩; conv => arg 4; whnf)
      refine ⟨by decide, Le.of_eq (congrArg AV.bool ?_), trivial, (Cl.bool _) _, trivial⟩
      rfl
    · rw [h2]
      (conv => arg 4; whnf); repeat (refine ⟨rfl, ?_⟩; conv => arg 4; whnf)
      refine ⟨by decide, Le.blOf ?_, trivial, (Cl.bool _) _, trivial⟩
      rfl
  · rw [h]
    (conv => arg 4; whnf); repeat (refine ⟨rfl, ?_⟩; conv => arg 4; whnf)
    refine ⟨by decide, Le.blOf ?_, trivial, (Cl.bool _) _, trivial⟩
    rfl
theorem refSameRec {a b : Rec} : CallOK Try.prog 92 [a.av, b.av] [] 0 (Out (.bool (decide (a = b))) [] 0) := by
  refine CallOK.fit (by decide) ?_
  refine callOK Try.call92 Try.func92 Try.ntmps92 rfl ?_
  rw [rec_eq]
  conv => arg 4; whnf
  refine ⟨a.key, ctxP_of rfl, ?_⟩
  conv => arg 4; whnf
  refine ⟨b.key, ctxP_of rfl, ?_⟩
  conv => arg 4; whnf
  refine ⟨a.val, ctxP_of rfl, ?_⟩
  conv => arg 4; whnf
  refine ⟨b.val, ctxP_of rfl, ?_⟩
  conv => arg 4; whnf
  refine ⟨by decide, Le.of_eq (congrArg AV.bool ?_), trivial, (Cl.bool _) _, trivial⟩
  rfl

/-- The two begin alike. -/
structure EqI (a b : List Rec) where
  i : Nat
  hi : i ≤ a.length
  h : a.take i = b.take i

theorem eq_step {a b : List Rec} {i : Nat} {x y : Rec} (hx : a[i]? = some x) (hy : b[i]? = some y) (h : a.take i = b.take i) (e : x = y) : a.take (i + 1) = b.take (i + 1) := by
  rw [List.take_add_one, List.take_add_one, hx, hy, h, e]
theorem ne_step {a b : List Rec} {i : Nat} {x y : Rec} (hx : a[i]? = some x) (hy : b[i]? = some y) (e : x ≠ y) : a ≠ b := by
  intro h; subst h; rw [hx] at hy; cases hy; exact e rfl

theorem equalFunc {a b : List Rec} (ha : a.length ≤ 1000000) : CallOK Try.prog 88 [recsV a, recsV b, .fn 89 []] [] 0 (Out (.bool (decide (a = b))) [] 0) := by
  refine CallOK.fit (by decide) ?_
  refine callOK Try.call88 Try.func88 Try.ntmps88 rfl ?_
  conv => arg 4; whnf
  refine ⟨fun h => ?_, fun h => ?_⟩
  · have h : a.length ≠ b.length := by rw [recs_length, recs_length] at h; simp at h; omega
    (conv => arg 4; whnf); repeat (refine ⟨rfl, ?_⟩; conv => arg 4; whnf)
    refine ⟨by decide, Le.blOf ?_, trivial, (Cl.bool _) _, trivial⟩
    exact (decide_eq_false (fun e => h (by rw [e]))).symm
  · have h : a.length = b.length := by rw [recs_length, recs_length] at h; simp at h; omega
    have cla : ∀ ρ, ren ρ (recsV a) = recsV a := Cl.sl (ClL.recs _)
    have clb : ∀ ρ, ren ρ (recsV b) = recsV b := Cl.sl (ClL.recs _)
    (conv => arg 4; whnf); repeat (refine ⟨rfl, ?_⟩; conv => arg 4; whnf)
    refine tri_loopG (ι := EqI a b) (fun x => ⟨[(17, .int .i64 x.i), (16, .int .i64 a.length), (15, recsV a), (1, recsV b), (2, .fn 89 [])], [], 0, 32⟩) (fun x => a.length - x.i) ⟨0, Nat.zero_le _, rfl⟩ (WkG.of rfl rfl ⟨Le.refl _ _, Le.of_eq (congrArg (fun n : Nat => AV.int .i64 n) (recs_length _)), Le.refl _ _, Le.refl _ _, Le.refl _ _, trivial⟩ trivial ⟨rfl, rfl, cla _, clb _, rfl, trivial⟩ trivial) ?_
    rintro ⟨i, hi, ht⟩
    dsimp only
    conv => arg 4; whnf
    refine ⟨fun h1 => ?_, fun h1 => ?_⟩
    · have hi' : i < a.length := by simp at h1; omega
      obtain ⟨x, hx⟩ : ∃ x, a[i]? = some x := ⟨_, List.getElem?_eq_getElem hi'⟩
      obtain ⟨y, hy⟩ : ∃ y, b[i]? = some y := ⟨_, List.getElem?_eq_getElem (by omega)⟩
      conv => arg 4; whnf
      refine ⟨x.av, ⟨by omega, recs_get hx⟩, ?_⟩
      (conv => arg 4; whnf); repeat (refine ⟨rfl, ?_⟩; conv => arg 4; whnf)
      refine ⟨y.av, ⟨by omega, recs_get hy⟩, ?_⟩
      (conv => arg 4; whnf); repeat (refine ⟨rfl, ?_⟩; conv => arg 4; whnf)
      refine call0 (batSameRec (a := x) (b := y)) (ClL.cons (Cl.rec x) (ClL.cons (Cl.rec y) ClL.nil)) (Cl.bool _) ?_
      (conv => arg 4; whnf); repeat (refine ⟨rfl, ?_⟩; conv => arg 4; whnf)
      refine ⟨fun h2 => ?_, fun h2 => ?_⟩
      · have h2 : x ≠ y := by simpa using h2
        (conv => arg 4; whnf); repeat (refine ⟨rfl, ?_⟩; conv => arg 4; whnf)
        refine ⟨by decide, Le.blOf ?_, trivial, (Cl.bool _) _, trivial⟩
        exact (decide_eq_false (ne_step hx hy h2)).symm
      · have h2 : x = y := by simpa using h2
        (conv => arg 4; whnf); repeat (refine ⟨rfl, ?_⟩; conv => arg 4; whnf)
        exact ⟨⟨i + 1, hi', eq_step hx hy ht h2⟩, by show a.length - (i + 1) < a.length - i; omega, WkG.of rfl rfl ⟨Le.of_eq (succ_int (by omega)), Le.refl _ _, Le.refl _ _, Le.refl _ _, Le.refl _ _, trivial⟩ trivial ⟨rfl, rfl, cla _, clb _, rfl, trivial⟩ trivial⟩
    · have hi' : i = a.length := by simp at h1; omega
      have he : a = b := by rw [hi', List.take_length] at ht; rw [ht, h, List.take_length]
      conv => arg 4; whnf
      refine fin_exit ?_
      show holds _ _ _ _
      conv => arg 4; whnf
      refine ⟨by decide, Le.blOf ?_, trivial, (Cl.bool _) _, trivial⟩
      exact (decide_eq_true he).symm
theorem refSameRecs {a b : List Rec} (ha : a.length ≤ 1000000) : CallOK Try.prog 63 [recsV a, recsV b] [] 0 (Out (.bool (decide (a = b))) [] 0) := by
  refine CallOK.fit (by decide) ?_
  refine callOK Try.call63 Try.func63 Try.ntmps63 rfl ?_
  conv => arg 4; whnf
  refine ⟨fun h => ?_, fun h => ?_⟩
  · have h : a.length ≠ b.length := by rw [recs_length, recs_length] at h; simp at h; omega
    (conv => arg 4; whnf); repeat (refine ⟨rfl, ?_⟩; conv => arg 4; whnf)
    refine ⟨by decide, Le.blOf ?_, trivial, (Cl.bool _) _, trivial⟩
    exact (decide_eq_false (fun e => h (by rw [e]))).symm
  · have h : a.length = b.length := by rw [recs_length, recs_length] at h; simp at h; omega
    have cla : ∀ ρ, ren ρ (recsV a) = recsV a := Cl.sl (ClL.recs _)
    have clb : ∀ ρ, ren ρ (recsV b) = recsV b := Cl.sl (ClL.recs _)
    (conv => arg 4; whnf); repeat (refine ⟨rfl, ?_⟩; conv => arg 4; whnf)
    refine tri_loopG (ι := EqI a b) (fun x => ⟨[(5, .int .i64 x.i), (0, recsV a), (1, recsV b)], [], 0, 27⟩) (fun x => a.length - x.i) ⟨0, Nat.zero_le _, rfl⟩ (WkG.of rfl rfl ⟨Le.refl _ _, Le.refl _ _, Le.refl _ _, trivial⟩ trivial ⟨rfl, cla _, clb _, trivial⟩ trivial) ?_
    rintro ⟨i, hi, ht⟩
    dsimp only
    conv => arg 4; whnf
    refine ⟨fun h1 => ?_, fun h1 => ?_⟩
    · have hi' : i < a.length := by rw [recs_length] at h1; simp at h1; omega
      obtain ⟨x, hx⟩ : ∃ x, a[i]? = some x := ⟨_, List.getElem?_eq_getElem hi'⟩
      obtain ⟨y, hy⟩ : ∃ y, b[i]? = some y := ⟨_, List.getElem?_eq_getElem (by omega)⟩
      conv => arg 4; whnf
      refine ⟨x.av, ⟨by omega, recs_get hx⟩, ?_⟩
      (conv => arg 4; whnf); repeat (refine ⟨rfl, ?_⟩; conv => arg 4; whnf)
      refine ⟨y.av, ⟨by omega, recs_get hy⟩, ?_⟩
      (conv => arg 4; whnf); repeat (refine ⟨rfl, ?_⟩; conv => arg 4; whnf)
      refine call0 (refSameRec (a := x) (b := y)) (ClL.cons (Cl.rec x) (ClL.cons (Cl.rec y) ClL.nil)) (Cl.bool _) ?_
      (conv => arg 4; whnf); repeat (refine ⟨rfl, ?_⟩; conv => arg 4; whnf)
      refine ⟨fun h2 => ?_, fun h2 => ?_⟩
      · have h2 : x ≠ y := by simpa using h2
        (conv => arg 4; whnf); repeat (refine ⟨rfl, ?_⟩; conv => arg 4; whnf)
        refine ⟨by decide, Le.blOf ?_, trivial, (Cl.bool _) _, trivial⟩
        exact (decide_eq_false (ne_step hx hy h2)).symm
      · have h2 : x = y := by simpa using h2
        (conv => arg 4; whnf); repeat (refine ⟨rfl, ?_⟩; conv => arg 4; whnf)
        exact ⟨⟨i + 1, hi', eq_step hx hy ht h2⟩, by show a.length - (i + 1) < a.length - i; omega, WkG.of rfl rfl ⟨Le.of_eq (succ_int (by omega)), Le.refl _ _, Le.refl _ _, trivial⟩ trivial ⟨rfl, cla _, clb _, trivial⟩ trivial⟩
    · have hi' : i = a.length := by rw [recs_length] at h1; simp at h1; omega
      have he : a = b := by rw [hi', List.take_length] at ht; rw [ht, h, List.take_length]
      conv => arg 4; whnf
      refine fin_exit ?_
      show holds _ _ _ _
      conv => arg 4; whnf
      refine ⟨by decide, Le.blOf ?_, trivial, (Cl.bool _) _, trivial⟩
      exact (decide_eq_true he).symm
end Go.Proofs.Ythclmkhkchbpiaa

namespace Go.Proofs.Ythclmkhkchbpiaa
set_option maxRecDepth 100000
set_option maxHeartbeats 80000000
open Go.Sym

theorem bat_eq {a b : Bat} : decide (a = b) = (bif bif bif bif bif a.base == b.base then a.last == b.last else false then a.prod == b.prod else false then a.epoch == b.epoch else false then a.seq == b.seq else false then decide (a.recs = b.recs) else false) := by
  cases a; cases b
  simp only [Bat.mk.injEq]
  rw [Bool.eq_iff_iff]
  simp only [decide_eq_true_eq, Bool.cond_false_right, Bool.and_eq_true, beq_iff_eq]
  constructor
  · rintro ⟨h1, h2, h3, h4, h5, h6⟩; exact ⟨⟨⟨⟨⟨h1, h2⟩, h3⟩, h4⟩, h5⟩, h6⟩
  · rintro ⟨⟨⟨⟨⟨h1, h2⟩, h3⟩, h4⟩, h5⟩, h6⟩; exact ⟨h1, h2, h3, h4, h5, h6⟩

theorem Cl.recsV (l : List Rec) : Cl (recsV l) := Cl.sl (ClL.recs _)

theorem batSame {a b : Bat} (ha : a.recs.length ≤ 1000000) : CallOK Try.prog 48 [a.av, b.av] [] 0 (Out (.bool (decide (a = b))) [] 0) := by
  refine CallOK.fit (by decide) ?_
  refine callOK Try.call48 Try.func48 Try.ntmps48 rfl ?_
  rw [bat_eq]
  conv => arg 4; whnf
  refine ⟨fun h => ?_, fun h => ?_⟩
  · rw [h]
    (conv => arg 4; whnf); repeat (refine ⟨rfl, ?_⟩; conv => arg 4; whnf)
    refine call0 (equalFunc ha) (C3 (Cl.recsV _) (Cl.recsV _) (fun _ => rfl)) (Cl.bool _) ?_
    (conv => arg 4; whnf); repeat (refine ⟨rfl, ?_⟩; conv => arg 4; whnf)
    refine ⟨by decide, Le.of_eq (congrArg AV.bool ?_), trivial, (Cl.bool _) _, trivial⟩
    rfl
  · rw [h]
    (conv => arg 4; whnf); repeat (refine ⟨rfl, ?_⟩; conv => arg 4; whnf)
    refine ⟨by decide, Le.blOf ?_, trivial, (Cl.bool _) _, trivial⟩
    rfl
theorem refSame {a b : Bat} (ha : a.recs.length ≤ 1000000) : CallOK Try.prog 42 [a.av, b.av] [] 0 (Out (.bool (decide (a = b))) [] 0) := by
  refine CallOK.fit (by decide) ?_
  refine callOK Try.call42 Try.func42 Try.ntmps42 rfl ?_
  rw [bat_eq]
  conv => arg 4; whnf
  refine ⟨fun h => ?_, fun h => ?_⟩
  · rw [h]
    (conv => arg 4; whnf); repeat (refine ⟨rfl, ?_⟩; conv => arg 4; whnf)
    refine call0 (refSameRecs ha) (ClL.cons (Cl.recsV _) (ClL.cons (Cl.recsV _) ClL.nil)) (Cl.bool _) ?_
    (conv => arg 4; whnf); repeat (refine ⟨rfl, ?_⟩; conv => arg 4; whnf)
    refine ⟨by decide, Le.of_eq (congrArg AV.bool ?_), trivial, (Cl.bool _) _, trivial⟩
    rfl
  · rw [h]
    (conv => arg 4; whnf); repeat (refine ⟨rfl, ?_⟩; conv => arg 4; whnf)
    refine ⟨by decide, Le.blOf ?_, trivial, (Cl.bool _) _, trivial⟩
    rfl
end Go.Proofs.Ythclmkhkchbpiaa

namespace Go.Proofs.Ythclmkhkchbpiaa
set_option maxRecDepth 100000
set_option maxHeartbeats 80000000
open Go.Sym

structure FxX where
  v : Int
  r : List UInt8
  e : Int
structure ByX where
  v : List UInt8
  r : List UInt8
  e : Int
abbrev RO (r : List UInt8) (e : Int) : AObj := .cells [.sl .none 0 (u8s r), .int .i64 e]
theorem ClO.RO (r : List UInt8) (e : Int) : ClO (RO r e) := ClO.cells (ClL.cons (Cl.bs _) (ClL.cons (Cl.int _ _) ClL.nil))

theorem fixedR_suf (b : List UInt8) (e size : Int) : (fixedR b e size).2.1 <:+ b := by
  unfold fixedR
  split
  · exact List.suffix_refl _
  · split
    · exact List.suffix_refl _
    · exact List.drop_suffix _ _
theorem numR_suf (b : List UInt8) (e : Int) : (numR b e).2.1 <:+ b := by
  unfold numR
  split
  · exact List.suffix_refl _
  · split
    · exact List.drop_suffix _ _
    · exact List.suffix_refl _
theorem bytesR_suf (b : List UInt8) (e most : Int) : (bytesR b e most).2.1 <:+ b := by
  unfold bytesR
  split
  · exact List.suffix_refl _
  · split
    · split
      · exact List.suffix_refl _
      · split
        · exact List.suffix_refl _
        · exact (List.drop_suffix _ _).trans (List.drop_suffix _ _)
    · exact List.suffix_refl _
theorem bytesR_len (b : List UInt8) (e most : Int) : (bytesR b e most).1.length ≤ b.length := by
  unfold bytesR
  split
  · simp
  · split
    · split
      · simp
      · split
        · simp
        · simp; omega
    · simp

theorem rFixedE {b : List UInt8} {e size : Int} (hs : I64 size) (hb : b.length ≤ 100000000000000) : CallOK Try.prog 26 [.ptr 0 0, .int .i64 size] (RH b e) 1
    (fun a h m => ∃ x : FxX, (fixedR b e size = (x.v, x.r, x.e) ∧ x.r <:+ b) ∧ Out (.int .i64 x.v) [(0, RO x.r x.e)] 1 a h m) :=
  (rFixed hs hb).mono fun _ _ _ h => ⟨⟨_, _, _⟩, ⟨rfl, fixedR_suf b e size⟩, h⟩
theorem rNumE {b : List UInt8} {e : Int} (hb : b.length ≤ 100000000000000) : CallOK Try.prog 28 [.ptr 0 0] (RH b e) 1
    (fun a h m => ∃ x : FxX, (numR b e = (x.v, x.r, x.e) ∧ x.r <:+ b) ∧ Out (.int .i64 x.v) [(0, RO x.r x.e)] 1 a h m) :=
  (rNum hb).mono fun _ _ _ h => ⟨⟨_, _, _⟩, ⟨rfl, numR_suf b e⟩, h⟩
theorem rBytesE {b : List UInt8} {e most : Int} (hb : b.length ≤ 100000000000000) : CallOK Try.prog 30 [.ptr 0 0, .int .i64 most] (RH b e) 1
    (fun a h m => ∃ x : ByX, (bytesR b e most = (x.v, x.r, x.e) ∧ x.r <:+ b ∧ x.v.length ≤ b.length) ∧ Out (.sl .none 0 (u8s x.v)) [(0, RO x.r x.e)] 1 a h m) :=
  (rBytes hb).mono fun _ _ _ h => ⟨⟨_, _, _⟩, ⟨rfl, bytesR_suf b e most, bytesR_len b e most⟩, h⟩
end Go.Proofs.Ythclmkhkchbpiaa

namespace Go.Proofs.Ythclmkhkchbpiaa
set_option maxRecDepth 100000
set_option maxHeartbeats 80000000
open Go.Sym

/-- Bytes that may be wanting, read: are they there, which, what is behind them, an error. -/
def optR (b : List UInt8) : Bool × List UInt8 × List UInt8 × Int :=
  match getL 0 0 b with
  | some (u, k) => if zag u = -1 then (false, [], b.drop k, 0) else (true, bytesR b 0 65536)
  | none => (true, bytesR b 0 65536)

structure OpX where
  has : Bool
  v : List UInt8
  r : List UInt8
  e : Int

theorem rLeft0 {b : List UInt8} : CallOK Try.prog 32 [.ptr 0 0] (RH b 0) 1 (Out (.int .i64 b.length) (RH b 0) 1) := rLeft
theorem rErrE {b : List UInt8} {e : Int} : CallOK Try.prog 33 [.ptr 0 0] [(0, RO b e)] 1 (Out (.int .i64 e) [(0, RO b e)] 1) := rErr

theorem bytesOf' {p q b : List UInt8} (hp : p = q ++ b) (hl : p.length ≤ 1000000000) : CallOK Try.prog 110 [.ptr 0 0, bs p] (RH b 0) 1
    (fun a h m => ∃ x : OpX, (optR b = (x.has, x.v, x.r, x.e) ∧ x.r <:+ b ∧ x.v.length ≤ b.length) ∧ Out (.tup [.bool x.has, bs x.v]) [(0, RO x.r x.e)] 1 a h m) := by
  have hbl : b.length ≤ p.length := by rw [hp, List.length_append]; omega
  have hd : p.drop (p.length - b.length) = b := by rw [hp, List.length_append, Nat.add_sub_cancel, List.drop_left]
  refine CallOK.fitE (by decide) ?_
  refine callOK Try.call110 Try.func110 Try.ntmps110 rfl ?_
  conv => arg 4; whnf
  refine call1 0 rLeft0 rfl rfl (ClO.RO _ _) (ClO.RO _ _) rfl (Cl.int _ _) ?_
  (conv => arg 4; whnf); repeat (refine ⟨rfl, ?_⟩; conv => arg 4; whnf)
  have hw : IntKind.i64.wrap (((u8s p).length : Int) - b.length) = ((p.length - b.length : Nat) : Int) := by rw [u8s_length, IntKind.wrap_i64]; omega
  refine ⟨by rw [hw, u8s_length]; omega, ?_⟩
  (conv => arg 4; whnf); repeat (refine ⟨rfl, ?_⟩; conv => arg 4; whnf)
  refine holds_args (args' := [.sl .none 0 (u8s b)]) ⟨Le.of_eq (congrArg (AV.sl .none 0) (by rw [hw, Int.toNat_natCast, u8s_drop, hd])), trivial⟩ ?_
  have c := numGet (b := b) (by omega)
  unfold getA at c
  have ho : ∀ o, getL 0 0 b = o → optR b = match o with
    | some (u, k) => if zag u = -1 then (false, [], b.drop k, 0) else (true, bytesR b 0 65536)
    | none => (true, bytesR b 0 65536) := fun o h => by subst h; rfl
  cases hgl : getL 0 0 b with
  | none =>
    rw [hgl] at c
    have ho := ho _ hgl
    refine call0 c (ClL.cons (Cl.bs _) ClL.nil) (Cl.tup (C3 (Cl.int _ _) (Cl.int _ _) (Cl.int _ _))) ?_
    (conv => arg 4; whnf); repeat (refine ⟨rfl, ?_⟩; conv => arg 4; whnf)
    refine ⟨fun h => absurd h (by simp), fun _ => ?_⟩
    (conv => arg 4; whnf); repeat (refine ⟨rfl, ?_⟩; conv => arg 4; whnf)
    refine call1E 0 (rBytesE (b := b) (e := 0) (most := 65536) (by omega)) rfl rfl (ClO.RO _ _) (fun x => ClO.RO _ _) rfl (fun x => Cl.bs _) fun x hx => ?_
    (conv => arg 4; whnf); repeat (refine ⟨rfl, ?_⟩; conv => arg 4; whnf)
    refine ⟨⟨true, x.v, x.r, x.e⟩, ⟨by rw [ho]; simp only [hx.1], hx.2⟩, by decide, Le.tup (LeL.cons Le.bl (LeL.cons (Le.refl _ _) (LeL.nil _))), ⟨⟨_, rfl, LeO.refl _ _⟩, trivial⟩, Cl.tup (ClL.cons (Cl.bool _) (ClL.cons (Cl.bs _) ClL.nil)) _, ⟨⟨by decide, ClO.RO _ _ _⟩, trivial⟩⟩
  | some uk =>
    obtain ⟨u, k⟩ := uk
    rw [hgl] at c
    have ho := ho _ hgl
    refine call0 c (ClL.cons (Cl.bs _) ClL.nil) (Cl.tup (C3 (Cl.int _ _) (Cl.int _ _) (Cl.int _ _))) ?_
    (conv => arg 4; whnf); repeat (refine ⟨rfl, ?_⟩; conv => arg 4; whnf)
    refine ⟨fun h => ?_, fun h => ?_⟩
    · have h : zag u = -1 := by simpa using h
      simp only [h, if_true] at ho
      (conv => arg 4; whnf); repeat (refine ⟨rfl, ?_⟩; conv => arg 4; whnf)
      refine call1E 0 (rNumE (b := b) (e := 0) (by omega)) rfl rfl (ClO.RO _ _) (fun x => ClO.RO _ _) rfl (fun x => Cl.int _ _) fun x hx => ?_
      (conv => arg 4; whnf); repeat (refine ⟨rfl, ?_⟩; conv => arg 4; whnf)
      have hn : numR b 0 = (zag u, b.drop k, 0) := by unfold numR; rw [hgl]; rfl
      have hx1 := hx.1
      rw [hn] at hx1
      obtain ⟨xv, xr, xe⟩ := x
      simp only [Prod.mk.injEq] at hx1
      obtain ⟨rfl, rfl, rfl⟩ := hx1
      refine ⟨⟨false, [], b.drop k, 0⟩, ⟨ho, hx.2, by simp⟩, by decide, Le.tup (LeL.cons Le.bl (LeL.cons Le.nils (LeL.nil _))), ⟨⟨_, rfl, LeO.refl _ _⟩, trivial⟩, Cl.tup (ClL.cons (Cl.bool _) (ClL.cons (Cl.bs _) ClL.nil)) _, ⟨⟨by decide, ClO.RO _ _ _⟩, trivial⟩⟩
    · have h : zag u ≠ -1 := by simpa using h
      simp only [h, if_false] at ho
      (conv => arg 4; whnf); repeat (refine ⟨rfl, ?_⟩; conv => arg 4; whnf)
      refine call1E 0 (rBytesE (b := b) (e := 0) (most := 65536) (by omega)) rfl rfl (ClO.RO _ _) (fun x => ClO.RO _ _) rfl (fun x => Cl.bs _) fun x hx => ?_
      (conv => arg 4; whnf); repeat (refine ⟨rfl, ?_⟩; conv => arg 4; whnf)
      refine ⟨⟨true, x.v, x.r, x.e⟩, ⟨by rw [ho]; rw [hx.1], hx.2⟩, by decide, Le.tup (LeL.cons Le.bl (LeL.cons (Le.refl _ _) (LeL.nil _))), ⟨⟨_, rfl, LeO.refl _ _⟩, trivial⟩, Cl.tup (ClL.cons (Cl.bool _) (ClL.cons (Cl.bs _) ClL.nil)) _, ⟨⟨by decide, ClO.RO _ _ _⟩, trivial⟩⟩
end Go.Proofs.Ythclmkhkchbpiaa

namespace Go.Proofs.Ythclmkhkchbpiaa
set_option maxRecDepth 100000
set_option maxHeartbeats 80000000
open Go.Sym

theorem getL_at {n : Int} (hn : I64 n) (r : List UInt8) : getL 0 0 (put n ++ r) = some (zig n, (put n).length) := by
  have := getL_put 0 0 (zig n) r (by omega) (by have := zig_lt hn; omega) (.inl rfl)
  simpa [put] using this

theorem optR_opt {has : Bool} {l r : List UInt8} (h0 : has = false → l = []) (hl : l.length ≤ 65536) : optR (opt has l ++ r) = (has, l, r, 0) := by
  cases has with
  | true =>
    have hn : I64 (l.length : Int) := by unfold I64; omega
    have hb := bytesR_put (s := l) (r := r) (most := 65536) (by omega) (by omega)
    rw [opt_yes]
    unfold optR
    rw [List.append_assoc, getL_at hn]
    simp only [zag_zig hn]
    rw [if_neg (by omega), ← List.append_assoc, hb]
  | false =>
    have hn : I64 (-1) := by unfold I64; omega
    rw [h0 rfl, opt_no]
    unfold optR
    rw [getL_at hn]
    simp only [zag_zig hn, if_true, List.drop_left]

/-- A record as it is written of a batch. -/
structure Rec.wr (r : Rec) (first base : Int) : Prop where
  t : I64 (r.time - first)
  o : I64 (r.off - base)
  t' : I64 r.time
  o' : I64 r.off
  k : r.key.length ≤ 65536
  v : r.val.length ≤ 65536
  k0 : r.hk = false → r.key = []
  v0 : r.hv = false → r.val = []

theorem argsP {nx i : Nat} {a : AV} (h : Cl a) : [AV.ptr (rho nx [i] 0) 0, a] = renL (rho nx [i]) [.ptr 0 0, a] := by simp only [renL, ren, h _]

structure BdX where
  x : Rec
  ok : Bool

theorem batBody {p : List UInt8} {base first : Int} (hl : p.length ≤ 1000000000) : CallOK Try.prog 100 [bs p, .int .i64 base, .int .i64 first] [] 0
    (fun a h m => ∃ x : BdX, (∀ r : Rec, r.wr first base → p = r.body first base → x.ok = true ∧ x.x = r) ∧ Out (.tup [x.x.av, .bool x.ok]) [] 0 a h m) := by
  refine CallOK.fitE (by decide) ?_
  refine callOK Try.call100 Try.func100 Try.ntmps100 rfl ?_
  conv => arg 4; whnf
  refine callNew (newReader (b := p) (by omega)) (ClL.cons (Cl.bs _) ClL.nil) (ClO.RO _ _) ?_
  (conv => arg 4; whnf); repeat (refine ⟨rfl, ?_⟩; conv => arg 4; whnf)
  refine call1E 1 (rNumE (b := p) (e := 0) (by omega)) rfl rfl (ClO.RO _ _) (fun x => ClO.RO _ _) rfl (fun x => Cl.int _ _) fun x1 h1 => ?_
  have l1 := h1.2.length_le
  (conv => arg 4; whnf); repeat (refine ⟨rfl, ?_⟩; conv => arg 4; whnf)
  refine call1E 1 (rNumE (b := x1.r) (e := x1.e) (by omega)) rfl rfl (ClO.RO _ _) (fun x => ClO.RO _ _) rfl (fun x => Cl.int _ _) fun x2 h2 => ?_
  have l2 := h2.2.length_le
  (conv => arg 4; whnf); repeat (refine ⟨rfl, ?_⟩; conv => arg 4; whnf)
  refine call1 1 rErrE rfl rfl (ClO.RO _ _) (ClO.RO _ _) rfl (Cl.int _ _) ?_
  (conv => arg 4; whnf); repeat (refine ⟨rfl, ?_⟩; conv => arg 4; whnf)
  have g2 : ∀ r : Rec, r.wr first base → p = r.body first base → (x1.v = r.time - first ∧ x2.v = r.off - base) ∧ x2.r = opt r.hk r.key ++ opt r.hv r.val ∧ x2.e = 0 := fun r hw hp => by
    have h1 := h1.1
    have h2 := h2.1
    rw [hp, Rec.body, List.append_assoc, List.append_assoc, numR_put hw.t] at h1
    obtain ⟨x1v, x1r, x1e⟩ := x1
    simp only [Prod.mk.injEq] at h1
    obtain ⟨rfl, rfl, rfl⟩ := h1
    simp only [numR_put hw.o, Prod.mk.injEq] at h2
    exact ⟨⟨rfl, h2.1.symm⟩, h2.2.1.symm, h2.2.2.symm⟩
  refine ⟨fun he => ?_, fun he => ?_⟩
  · have he : x2.e ≠ 0 := by simpa using he
    (conv => arg 4; whnf); repeat (refine ⟨rfl, ?_⟩; conv => arg 4; whnf)
    refine ⟨⟨⟨_, _, false, [], false, []⟩, false⟩, fun r hw hp => absurd (g2 r hw hp).2.2 he, by decide, Le.tup (LeL.cons (Le.agg (LeL.cons (Le.refl _ _) (LeL.cons (Le.refl _ _) (LeL.cons Le.bl (LeL.cons Le.nils (LeL.cons Le.bl (LeL.cons Le.nils (LeL.nil _)))))))) (LeL.cons Le.bl (LeL.nil _))), trivial, Cl.tup (ClL.cons (Cl.rec _) (ClL.cons (Cl.bool _) ClL.nil)) _, trivial⟩
  · have he : x2.e = 0 := by simpa using he
    rw [he]
    (conv => arg 4; whnf); repeat (refine ⟨rfl, ?_⟩; conv => arg 4; whnf)
    obtain ⟨q, hq⟩ := h2.2.trans h1.2
    refine call1E 1 (bytesOf' hq.symm hl) rfl rfl (ClO.RO _ _) (fun x => ClO.RO _ _) (argsP (Cl.bs p)) (fun x => Cl.tup (ClL.cons (Cl.bool _) (ClL.cons (Cl.bs _) ClL.nil))) fun x3 h3 => ?_
    (conv => arg 4; whnf); repeat (refine ⟨rfl, ?_⟩; conv => arg 4; whnf)
    refine call1 1 rErrE rfl rfl (ClO.RO _ _) (ClO.RO _ _) rfl (Cl.int _ _) ?_
    (conv => arg 4; whnf); repeat (refine ⟨rfl, ?_⟩; conv => arg 4; whnf)
    have g3 : ∀ r : Rec, r.wr first base → p = r.body first base → (x3.has = r.hk ∧ x3.v = r.key) ∧ x3.r = opt r.hv r.val ∧ x3.e = 0 := fun r hw hp => by
      have h3 := h3.1
      rw [(g2 r hw hp).2.1, optR_opt hw.k0 hw.k] at h3
      simp only [Prod.mk.injEq] at h3
      exact ⟨⟨h3.1.symm, h3.2.1.symm⟩, h3.2.2.1.symm, h3.2.2.2.symm⟩
    have l3 := h3.2.1.length_le
    refine ⟨fun he => ?_, fun he => ?_⟩
    · have he : x3.e ≠ 0 := by simpa using he
      (conv => arg 4; whnf); repeat (refine ⟨rfl, ?_⟩; conv => arg 4; whnf)
      refine ⟨⟨⟨_, _, x3.has, x3.v, false, []⟩, false⟩, fun r hw hp => absurd (g3 r hw hp).2.2 he, by decide, Le.tup (LeL.cons (Le.agg (LeL.cons (Le.refl _ _) (LeL.cons (Le.refl _ _) (LeL.cons (Le.refl _ _) (LeL.cons (Le.refl _ _) (LeL.cons (Le.bl) (LeL.cons (Le.nils) (LeL.nil _)))))))) (LeL.cons Le.bl (LeL.nil _))), trivial, Cl.tup (ClL.cons (Cl.rec _) (ClL.cons (Cl.bool _) ClL.nil)) _, trivial⟩
    · have he : x3.e = 0 := by simpa using he
      rw [he]
      (conv => arg 4; whnf); repeat (refine ⟨rfl, ?_⟩; conv => arg 4; whnf)
      obtain ⟨q, hq⟩ := h3.2.1.trans (h2.2.trans h1.2)
      refine call1E 1 (bytesOf' hq.symm hl) rfl rfl (ClO.RO _ _) (fun x => ClO.RO _ _) (argsP (Cl.bs p)) (fun x => Cl.tup (ClL.cons (Cl.bool _) (ClL.cons (Cl.bs _) ClL.nil))) fun x4 h4 => ?_
      (conv => arg 4; whnf); repeat (refine ⟨rfl, ?_⟩; conv => arg 4; whnf)
      refine call1 1 rErrE rfl rfl (ClO.RO _ _) (ClO.RO _ _) rfl (Cl.int _ _) ?_
      (conv => arg 4; whnf); repeat (refine ⟨rfl, ?_⟩; conv => arg 4; whnf)
      have g4 : ∀ r : Rec, r.wr first base → p = r.body first base → (x4.has = r.hv ∧ x4.v = r.val) ∧ x4.r = [] ∧ x4.e = 0 := fun r hw hp => by
        have h4 := h4.1
        rw [(g3 r hw hp).2.1, ← List.append_nil (opt r.hv r.val), optR_opt hw.v0 hw.v] at h4
        simp only [Prod.mk.injEq] at h4
        exact ⟨⟨h4.1.symm, h4.2.1.symm⟩, h4.2.2.1.symm, h4.2.2.2.symm⟩
      have gx : ∀ r : Rec, r.wr first base → p = r.body first base → (⟨IntKind.i64.wrap (base + x2.v), IntKind.i64.wrap (first + x1.v), x3.has, x3.v, x4.has, x4.v⟩ : Rec) = r := fun r hw hp => by
        have e1 := (g2 r hw hp).1
        have e3 := (g3 r hw hp).1
        have e4 := (g4 r hw hp).1
        have ht := hw.t'
        have ho := hw.o'
        unfold I64 at ht ho
        have a1 : IntKind.i64.wrap (base + x2.v) = r.off := by rw [e1.2, IntKind.wrap_i64]; omega
        have a2 : IntKind.i64.wrap (first + x1.v) = r.time := by rw [e1.1, IntKind.wrap_i64]; omega
        rw [a1, a2, e3.1, e3.2, e4.1, e4.2]
      refine ⟨fun he => ?_, fun he => ?_⟩
      · have he : x4.e = 0 := by simpa using he
        rw [he]
        (conv => arg 4; whnf); repeat (refine ⟨rfl, ?_⟩; conv => arg 4; whnf)
        refine call1 1 rLeft0 rfl rfl (ClO.RO _ _) (ClO.RO _ _) rfl (Cl.int _ _) ?_
        (conv => arg 4; whnf); repeat (refine ⟨rfl, ?_⟩; conv => arg 4; whnf)
        refine ⟨⟨⟨_, _, x3.has, x3.v, x4.has, x4.v⟩, (x4.r.length : Int) == 0⟩, fun r hw hp => ⟨?_, gx r hw hp⟩, ⟨by decide, Le.tup (LeL.cons (Le.refl _ _) (LeL.cons (Le.refl _ _) (LeL.nil _))), trivial, Cl.tup (ClL.cons (Cl.rec _) (ClL.cons (Cl.bool _) ClL.nil)) _, trivial⟩⟩
        rw [(g4 r hw hp).2.1]
        rfl
      · have he : x4.e ≠ 0 := by simpa using he
        (conv => arg 4; whnf); repeat (refine ⟨rfl, ?_⟩; conv => arg 4; whnf)
        exact ⟨⟨⟨_, _, x3.has, x3.v, x4.has, x4.v⟩, false⟩, fun r hw hp => absurd (g4 r hw hp).2.2 he, ⟨by decide, Le.tup (LeL.cons (Le.refl _ _) (LeL.cons Le.bl (LeL.nil _))), trivial, Cl.tup (ClL.cons (Cl.rec _) (ClL.cons (Cl.bool _) ClL.nil)) _, trivial⟩⟩
end Go.Proofs.Ythclmkhkchbpiaa

namespace Go.Proofs.Ythclmkhkchbpiaa
set_option maxRecDepth 100000
set_option maxHeartbeats 80000000
open Go.Sym

def Bat.good (b : Bat) (p : List UInt8) : Prop := b.chk = 0 ∧ b.enc = p

theorem recsE_full {b : Bat} : ∀ {l : List Rec} {prev : Int}, recsE b l prev = 0 → ∀ r ∈ l, r.fine b ∧ (r.hk = false → r.key = []) ∧ (r.hv = false → r.val = [])
  | [], _, _ => fun r hr => by cases hr
  | x :: l, prev, h => fun r hr => by
    unfold recsE at h
    by_cases h0 : recE x b.base b.last prev = 0
    · rw [if_neg (by simp [h0])] at h
      rcases List.mem_cons.1 hr with rfl | hr
      · have := recE_fine h0
        exact ⟨this.1, this.2.2⟩
      · exact recsE_full h r hr
    · rw [if_pos h0] at h; exact absurd h h0

theorem good_wr {b : Bat} {p : List UInt8} (h : b.good p) {r : Rec} (hr : r ∈ b.recs) : r.wr b.first b.base := by
  obtain ⟨h1, h2⟩ := h
  obtain ⟨hf, hl, he⟩ := chk_fine h1
  obtain ⟨f1, f2, f3⟩ := recsE_full he r hr
  have ht := first_time hf
  have hh := hf.head
  unfold HeadBad at hh
  unfold Rec.fine at f1
  exact ⟨by unfold I64; omega, by unfold I64; omega, by unfold I64; omega, by unfold I64; omega, by omega, by omega, f2, f3⟩

theorem recsB_drop {l : List Rec} {i : Nat} {x : Rec} {first base : Int} (h : l[i]? = some x) : recsB (l.drop i) first base = lenB (x.body first base) ++ recsB (l.drop (i + 1)) first base := by
  have hi : i < l.length := by
    rcases Nat.lt_or_ge i l.length with h' | h'
    · exact h'
    · simp [List.getElem?_eq_none h'] at h
  have : l.drop i = x :: l.drop (i + 1) := by
    rw [List.drop_eq_getElem_cons hi]
    simp [List.getElem?_eq_getElem hi] at h
    rw [h]
  rw [this]
  rfl

theorem fx8 {n : Int} (h : 0 ≤ n) (k : n ≤ 9223372036854775807) (r : List UInt8) : fixedR (fixed n.toNat 8 ++ r) 0 8 = (n, r, 0) := fixedR_fixed (n := n) (size := 8) (by unfold I64; omega) (fits8 h) r
theorem fx2 {n : Int} (h : 0 ≤ n) (k : n < 65536) (r : List UInt8) : fixedR (fixed n.toNat 2 ++ r) 0 2 = (n, r, 0) := fixedR_fixed (n := n) (size := 2) (by unfold I64; omega) (fits2 h k) r
theorem fx4 {n : Int} (h : 0 ≤ n) (k : n < 4294967296) (r : List UInt8) : fixedR (fixed n.toNat 4 ++ r) 0 4 = (n, r, 0) := fixedR_fixed (n := n) (size := 4) (by unfold I64; omega) (fits4 h k) r
theorem fx4n {n : Nat} (k : n < 4294967296) (r : List UInt8) : fixedR (fixed n 4 ++ r) 0 4 = ((n : Int), r, 0) := by
  have := fx4 (n := (n : Int)) (by omega) (by omega) r
  rwa [Int.toNat_natCast] at this

theorem good_fine {b : Bat} {p : List UInt8} (hg : b.good p) : b.fine := (chk_fine hg.1).1

/-- What is read of a batch's bytes, ahead of its records. -/
theorem good_head {b : Bat} {p : List UInt8} {x1 x2 x3 x4 x5 x6 x7 x8 x9 : FxX} (hg : b.good p) (h1 : fixedR p 0 8 = (x1.v, x1.r, x1.e)) (h2 : fixedR x1.r x1.e 4 = (x2.v, x2.r, x2.e)) (h3 : fixedR x2.r x2.e 4 = (x3.v, x3.r, x3.e))
    (h4 : fixedR x3.r x3.e 8 = (x4.v, x4.r, x4.e)) (h5 : fixedR x4.r x4.e 8 = (x5.v, x5.r, x5.e)) (h6 : fixedR x5.r x5.e 8 = (x6.v, x6.r, x6.e)) (h7 : fixedR x6.r x6.e 2 = (x7.v, x7.r, x7.e)) (h8 : fixedR x7.r x7.e 4 = (x8.v, x8.r, x8.e)) (h9 : fixedR x8.r x8.e 4 = (x9.v, x9.r, x9.e)) :
    (x1.v = b.base ∧ x4.v = b.last - b.base ∧ x5.v = b.first ∧ x6.v = b.prod ∧ x7.v = b.epoch ∧ x8.v = b.seq) ∧ x9 = ⟨b.recs.length, recsB b.recs b.first b.base, 0⟩ := by
  have hf := good_fine hg
  have ht := first_time hf
  have hh := hf.head
  have hr := rest_len hf
  have hc := crcSum_range b.rest
  have hn := hf.few
  unfold HeadBad at hh
  rw [← hg.2] at h1
  unfold Bat.enc at h1
  have hrest : b.rest = fixed (b.last - b.base).toNat 8 ++ (fixed b.first.toNat 8 ++ (fixed b.prod.toNat 8 ++ (fixed b.epoch.toNat 2 ++ (fixed b.seq.toNat 4 ++ (fixed b.recs.length 4 ++ recsB b.recs b.first b.base))))) := by
    simp only [Bat.rest, Bat.head, List.append_assoc]
  rw [List.append_assoc, List.append_assoc, fx8 (by omega) (by omega)] at h1
  obtain ⟨x1v, x1r, x1e⟩ := x1
  simp only [Prod.mk.injEq] at h1
  obtain ⟨rfl, rfl, rfl⟩ := h1
  rw [fx4n (by omega)] at h2
  obtain ⟨x2v, x2r, x2e⟩ := x2
  simp only [Prod.mk.injEq] at h2
  obtain ⟨rfl, rfl, rfl⟩ := h2
  rw [fx4n (by omega)] at h3
  obtain ⟨x3v, x3r, x3e⟩ := x3
  simp only [Prod.mk.injEq] at h3
  obtain ⟨rfl, rfl, rfl⟩ := h3
  rw [hrest, fx8 (by omega) (by omega)] at h4
  obtain ⟨x4v, x4r, x4e⟩ := x4
  simp only [Prod.mk.injEq] at h4
  obtain ⟨rfl, rfl, rfl⟩ := h4
  rw [fx8 (by omega) (by omega)] at h5
  obtain ⟨x5v, x5r, x5e⟩ := x5
  simp only [Prod.mk.injEq] at h5
  obtain ⟨rfl, rfl, rfl⟩ := h5
  rw [fx8 (by omega) (by omega)] at h6
  obtain ⟨x6v, x6r, x6e⟩ := x6
  simp only [Prod.mk.injEq] at h6
  obtain ⟨rfl, rfl, rfl⟩ := h6
  rw [fx2 (by omega) (by omega)] at h7
  obtain ⟨x7v, x7r, x7e⟩ := x7
  simp only [Prod.mk.injEq] at h7
  obtain ⟨rfl, rfl, rfl⟩ := h7
  rw [fx4 (by omega) (by omega)] at h8
  obtain ⟨x8v, x8r, x8e⟩ := x8
  simp only [Prod.mk.injEq] at h8
  obtain ⟨rfl, rfl, rfl⟩ := h8
  rw [fx4n (by omega)] at h9
  obtain ⟨x9v, x9r, x9e⟩ := x9
  simp only [Prod.mk.injEq] at h9
  obtain ⟨rfl, rfl, rfl⟩ := h9
  exact ⟨⟨rfl, rfl, rfl, rfl, rfl, rfl⟩, rfl⟩

structure RdI (p : List UInt8) (n : Int) (r0 : List UInt8) (e0 : Int) where
  i : Nat
  s : Nat
  r : List UInt8
  e : Int
  l : List Rec
  hi : (i : Int) ≤ max n 0
  hl : l.length = i
  hr : r.length ≤ r0.length
  h : ∀ b : Bat, b.good p → l = b.recs.take i ∧ r = recsB (b.recs.drop i) b.first b.base ∧ e = 0

structure RdX where
  b : Bat
  ok : Bool

theorem batRead {p : List UInt8} (hl : p.length ≤ 1000000000) : CallOK Try.prog 81 [bs p] [] 0
    (fun a h m => ∃ x : RdX, ((x.ok = true → x.b.good p) ∧ ∀ b : Bat, b.good p → x.ok = true ∧ x.b = b) ∧ Out (.tup [x.b.av, .bool x.ok]) [] 0 a h m) := by
  refine CallOK.fitE (by decide) ?_
  refine callOK Try.call81 Try.func81 Try.ntmps81 rfl ?_
  conv => arg 4; whnf
  refine callNew (newReader (b := p) (by omega)) (ClL.cons (Cl.bs _) ClL.nil) (ClO.RO _ _) ?_
  (conv => arg 4; whnf); repeat (refine ⟨rfl, ?_⟩; conv => arg 4; whnf)
  refine call1E 1 (rFixedE (b := p) (e := 0) (size := 8) (by unfold I64; omega) (by omega)) rfl rfl (ClO.RO _ _) (fun x => ClO.RO _ _) rfl (fun x => Cl.int _ _) fun x1 h1 => ?_
  have l1 := h1.2.length_le
  (conv => arg 4; whnf); repeat (refine ⟨rfl, ?_⟩; conv => arg 4; whnf)
  refine call1E 1 (rFixedE (b := x1.r) (e := x1.e) (size := 4) (by unfold I64; omega) (by omega)) rfl rfl (ClO.RO _ _) (fun x => ClO.RO _ _) rfl (fun x => Cl.int _ _) fun x2 h2 => ?_
  have l2 := h2.2.length_le
  (conv => arg 4; whnf); repeat (refine ⟨rfl, ?_⟩; conv => arg 4; whnf)
  refine call1E 1 (rFixedE (b := x2.r) (e := x2.e) (size := 4) (by unfold I64; omega) (by omega)) rfl rfl (ClO.RO _ _) (fun x => ClO.RO _ _) rfl (fun x => Cl.int _ _) fun x3 h3 => ?_
  have l3 := h3.2.length_le
  (conv => arg 4; whnf); repeat (refine ⟨rfl, ?_⟩; conv => arg 4; whnf)
  refine call1E 1 (rFixedE (b := x3.r) (e := x3.e) (size := 8) (by unfold I64; omega) (by omega)) rfl rfl (ClO.RO _ _) (fun x => ClO.RO _ _) rfl (fun x => Cl.int _ _) fun x4 h4 => ?_
  have l4 := h4.2.length_le
  (conv => arg 4; whnf); repeat (refine ⟨rfl, ?_⟩; conv => arg 4; whnf)
  refine call1E 1 (rFixedE (b := x4.r) (e := x4.e) (size := 8) (by unfold I64; omega) (by omega)) rfl rfl (ClO.RO _ _) (fun x => ClO.RO _ _) rfl (fun x => Cl.int _ _) fun x5 h5 => ?_
  have l5 := h5.2.length_le
  (conv => arg 4; whnf); repeat (refine ⟨rfl, ?_⟩; conv => arg 4; whnf)
  refine call1E 1 (rFixedE (b := x5.r) (e := x5.e) (size := 8) (by unfold I64; omega) (by omega)) rfl rfl (ClO.RO _ _) (fun x => ClO.RO _ _) rfl (fun x => Cl.int _ _) fun x6 h6 => ?_
  have l6 := h6.2.length_le
  (conv => arg 4; whnf); repeat (refine ⟨rfl, ?_⟩; conv => arg 4; whnf)
  refine call1E 1 (rFixedE (b := x6.r) (e := x6.e) (size := 2) (by unfold I64; omega) (by omega)) rfl rfl (ClO.RO _ _) (fun x => ClO.RO _ _) rfl (fun x => Cl.int _ _) fun x7 h7 => ?_
  have l7 := h7.2.length_le
  (conv => arg 4; whnf); repeat (refine ⟨rfl, ?_⟩; conv => arg 4; whnf)
  refine call1E 1 (rFixedE (b := x7.r) (e := x7.e) (size := 4) (by unfold I64; omega) (by omega)) rfl rfl (ClO.RO _ _) (fun x => ClO.RO _ _) rfl (fun x => Cl.int _ _) fun x8 h8 => ?_
  have l8 := h8.2.length_le
  (conv => arg 4; whnf); repeat (refine ⟨rfl, ?_⟩; conv => arg 4; whnf)
  refine call1E 1 (rFixedE (b := x8.r) (e := x8.e) (size := 4) (by unfold I64; omega) (by omega)) rfl rfl (ClO.RO _ _) (fun x => ClO.RO _ _) rfl (fun x => Cl.int _ _) fun x9 h9 => ?_
  have l9 := h9.2.length_le
  (conv => arg 4; whnf); repeat (refine ⟨rfl, ?_⟩; conv => arg 4; whnf)
  refine call1 1 rErrE rfl rfl (ClO.RO _ _) (ClO.RO _ _) rfl (Cl.int _ _) ?_
  (conv => arg 4; whnf); repeat (refine ⟨rfl, ?_⟩; conv => arg 4; whnf)
  have gh : ∀ b : Bat, b.good p → (x1.v = b.base ∧ x4.v = b.last - b.base ∧ x5.v = b.first ∧ x6.v = b.prod ∧ x7.v = b.epoch ∧ x8.v = b.seq) ∧ x9 = ⟨b.recs.length, recsB b.recs b.first b.base, 0⟩ := fun b hg => good_head hg h1.1 h2.1 h3.1 h4.1 h5.1 h6.1 h7.1 h8.1 h9.1
  have gn : ∀ b : Bat, b.good p → ¬ (x9.e ≠ 0 ∨ x9.v > 100) := fun b hg => by
    have := (gh b hg).2
    have hf := (good_fine hg).few
    rw [this]
    simp only
    omega
  clear h1 h2 h3 h4 h5 h6 h7 h8 h9
  refine ⟨fun he => ?_, fun he => ?_⟩
  · simp only [Bool.cond_true_left, Bool.cond_false_right, Bool.or_eq_true, Bool.and_eq_true, Bool.not_eq_true', decide_eq_true_eq, beq_iff_eq, bne_iff_ne, u8s_length, Bool.not_eq_true, gt_iff_lt, ge_iff_le] at he
    (conv => arg 4; whnf); repeat (refine ⟨rfl, ?_⟩; conv => arg 4; whnf)
    refine ⟨⟨⟨x1.v, IntKind.i64.wrap (x1.v + x4.v), x6.v, x7.v, x8.v, []⟩, false⟩, ⟨fun h => (by cases h), fun b hg => absurd he (gn b hg)⟩, by decide, Le.tup (LeL.cons (Le.agg (LeL.cons (Le.refl _ _) (LeL.cons (Le.refl _ _) (LeL.cons (Le.refl _ _) (LeL.cons (Le.refl _ _) (LeL.cons (Le.refl _ _) (LeL.cons (Le.nils) (LeL.nil _)))))))) (LeL.cons Le.bl (LeL.nil _))), trivial, Cl.tup (ClL.cons (Cl.bat _) (ClL.cons (Cl.bool _) ClL.nil)) _, trivial⟩
  · rw [← Bool.not_eq_true] at he; simp only [Bool.cond_true_left, Bool.cond_false_right, Bool.or_eq_true, Bool.and_eq_true, Bool.not_eq_true', decide_eq_true_eq, beq_iff_eq, bne_iff_ne, u8s_length, gt_iff_lt, ge_iff_le] at he
    (conv => arg 4; whnf); repeat (refine ⟨rfl, ?_⟩; conv => arg 4; whnf)
    have hn100 : x9.v ≤ 100 := by omega
    refine tri_loopG (ι := RdI p x9.v x9.r x9.e) (fun a => ⟨[(48, .int .i64 a.i), (47, .int .i64 x9.v), (5, .int .i64 x5.v), (4, .ptr 1 0), (2, .ptr 0 0), (0, bs p)], [(2, .tip a.s), (1, RO a.r a.e), (0, .cells [.int .i64 x1.v, .int .i64 (IntKind.i64.wrap (x1.v + x4.v)), .int .i64 x6.v, .int .i64 x7.v, .int .i64 x8.v, .sl (.tok 2 a.s) 6 (recsL a.l)])], 3, 82⟩) (fun a => (x9.v - a.i).toNat) ⟨0, 0, x9.r, x9.e, [], by omega, rfl, Nat.le_refl _, fun b hg => by rw [(gh b hg).2]; exact ⟨rfl, rfl, rfl⟩⟩ (WkG.tok rfl rfl ⟨Le.refl _ _, Le.refl _ _, Le.refl _ _, Le.refl _ _, Le.refl _ _, Le.refl _ _, trivial⟩ ⟨⟨_, rfl, rfl⟩, ⟨_, rfl, LeO.refl _ _⟩, ⟨_, rfl, LeL.cons (Le.refl _ _) (LeL.cons (Le.refl _ _) (LeL.cons (Le.refl _ _) (LeL.cons (Le.refl _ _) (LeL.cons (Le.refl _ _) (LeL.cons (Le.nilsTok rfl) (LeL.nil _))))))⟩, trivial⟩ ⟨rfl, rfl, rfl, rfl, rfl, Cl.bs p _, trivial⟩ ⟨⟨by decide, rfl⟩, ⟨by decide, ClO.RO _ _ _⟩, ⟨by decide, rfl⟩, trivial⟩) ?_
    rintro ⟨i, s, r, e, l, hi, hll, hrl, hg⟩
    dsimp only
    conv => arg 4; whnf
    refine ⟨fun h => ?_, fun h => ?_⟩
    · have h : (i : Int) < x9.v := by simpa using h
      (conv => arg 4; whnf); repeat (refine ⟨rfl, ?_⟩; conv => arg 4; whnf)
      refine call1E 1 (rBytesE (b := r) (e := e) (most := 65536) (by omega)) rfl rfl (ClO.RO _ _) (fun x => ClO.RO _ _) rfl (fun x => Cl.bs _) fun y hy => ?_
      have hyl := hy.2.1.length_le
      (conv => arg 4; whnf); repeat (refine ⟨rfl, ?_⟩; conv => arg 4; whnf)
      refine call0E (batBody (by omega)) (ClL.cons (Cl.bs _) (ClL.cons (Cl.int _ _) (ClL.cons (Cl.int _ _) ClL.nil))) (fun x => Cl.tup (ClL.cons (Cl.rec _) (ClL.cons (Cl.bool _) ClL.nil))) fun z hz => ?_
      (conv => arg 4; whnf); repeat (refine ⟨rfl, ?_⟩; conv => arg 4; whnf)
      have gz : ∀ b : Bat, b.good p → ∃ x, b.recs[i]? = some x ∧ z.ok = true ∧ z.x = x ∧ y.r = recsB (b.recs.drop (i + 1)) b.first b.base ∧ y.e = 0 := fun b hb => by
        obtain ⟨g1, g2, g3⟩ := hg b hb
        have hn : x9.v = b.recs.length := by rw [(gh b hb).2]
        have hil : i < b.recs.length := by omega
        obtain ⟨x, hx⟩ : ∃ x, b.recs[i]? = some x := ⟨_, List.getElem?_eq_getElem hil⟩
        have hw := good_wr hb (List.mem_of_getElem? hx)
        have hf := (good_fine hb).recs x (List.mem_of_getElem? hx)
        have hbl := body_len (good_fine hb) hf
        unfold Rec.fine at hf
        have hy := hy.1
        rw [g2, g3, recsB_drop hx, lenB, bytesR_put (by omega) (by omega)] at hy
        simp only [Prod.mk.injEq] at hy
        obtain ⟨y1, y2, y3⟩ := hy
        have hzz := hz x
        rw [(gh b hb).1.2.2.1, (gh b hb).1.1] at hzz
        obtain ⟨z1, z2⟩ := hzz hw y1.symm
        exact ⟨x, hx, z1, z2, y2.symm, y3.symm⟩
      refine ⟨fun h2 => ?_, fun h2 => ?_⟩
      · have h2 : z.ok = false := by simpa using h2
        (conv => arg 4; whnf); repeat (refine ⟨rfl, ?_⟩; conv => arg 4; whnf)
        refine ⟨⟨⟨x1.v, IntKind.i64.wrap (x1.v + x4.v), x6.v, x7.v, x8.v, l⟩, false⟩, ⟨fun h => (by cases h), fun b hb => ?_⟩, by decide, Le.tup (LeL.cons (Le.agg (LeL.cons (Le.refl _ _) (LeL.cons (Le.refl _ _) (LeL.cons (Le.refl _ _) (LeL.cons (Le.refl _ _) (LeL.cons (Le.refl _ _) (LeL.cons (Le.none) (LeL.nil _)))))))) (LeL.cons Le.bl (LeL.nil _))), trivial, Cl.tup (ClL.cons (Cl.bat _) (ClL.cons (Cl.bool _) ClL.nil)) _, trivial⟩
        obtain ⟨x, -, g2, -⟩ := gz b hb
        rw [h2] at g2; cases g2
      · have h2 : z.ok = true := by simpa using h2
        (conv => arg 4; whnf); repeat (refine ⟨rfl, ?_⟩; conv => arg 4; whnf)
        refine ⟨⟨rfl, sizeOk 80 rfl ?_⟩, ?_⟩
        · rw [List.length_append, recs_length, hll]; simp only [List.length_cons, List.length_nil]; omega
        (conv => arg 4; whnf); repeat (refine ⟨rfl, ?_⟩; conv => arg 4; whnf)
        refine ⟨⟨i + 1, s + 1, y.r, y.e, l ++ [z.x], by omega, by rw [List.length_append, hll]; rfl, by omega, fun b hb => ?_⟩, by show (x9.v - ((i + 1 : Nat) : Int)).toNat < (x9.v - (i : Int)).toNat; omega, WkG.of rfl rfl ⟨Le.of_eq (succ_int (by omega)), Le.refl _ _, Le.refl _ _, Le.refl _ _, Le.refl _ _, Le.refl _ _, trivial⟩ ⟨⟨_, rfl, LeO.refl _ _⟩, ⟨_, rfl, LeO.refl _ _⟩, ⟨_, rfl, ?_⟩, trivial⟩ ⟨rfl, rfl, rfl, rfl, rfl, Cl.bs p _, trivial⟩ ⟨⟨by decide, rfl⟩, ⟨by decide, ClO.RO _ _ _⟩, ⟨by decide, ?_⟩, trivial⟩⟩
        · obtain ⟨x, q1, q2, q3, q4, q5⟩ := gz b hb
          obtain ⟨g1, g2, g3⟩ := hg b hb
          refine ⟨?_, q4, q5⟩
          rw [g1, q3, List.take_add_one, q1]
          rfl
        · have e : recsL (l ++ [z.x]) = recsL l ++ [z.x.av] := by simp [recsL]
          rw [e]
          exact LeL.refl _ _
        · simp only [renO, renL, ren, ren_recs, renP, cut_lt (show 2 < 3 by decide)]
    · have h : ¬ (i : Int) < x9.v := by simpa using h
      conv => arg 4; whnf
      refine fin_exit ?_
      show holds _ _ _ _
      conv => arg 4; whnf
      have hb : ∃ b : Bat, b = ⟨x1.v, IntKind.i64.wrap (x1.v + x4.v), x6.v, x7.v, x8.v, l⟩ := ⟨_, rfl⟩
      obtain ⟨b, hb⟩ := hb
      have hbl : b.recs.length ≤ 1000000 := by rw [hb]; simp only; omega
      refine holds_args (args' := [b.av]) ⟨by rw [hb]; exact Le.agg (LeL.cons (Le.refl _ _) (LeL.cons (Le.refl _ _) (LeL.cons (Le.refl _ _) (LeL.cons (Le.refl _ _) (LeL.cons (Le.refl _ _) (LeL.cons (Le.none) (LeL.nil _))))))), trivial⟩ ?_
      refine call0 (batEnc hbl) (ClL.cons (Cl.bat b) ClL.nil) (Cl.encA b) ?_
      (conv => arg 4; whnf); repeat (refine ⟨rfl, ?_⟩; conv => arg 4; whnf)
      have hgood : ∀ b' : Bat, b'.good p → b = b' := fun b' hg' => by
        obtain ⟨⟨e1, e2, e3, e4, e5, e6⟩, e9⟩ := gh b' hg'
        obtain ⟨g1, -, -⟩ := hg b' hg'
        have hn : x9.v = b'.recs.length := by rw [e9]
        have hi' : i = b'.recs.length := by omega
        have hh := (good_fine hg').head
        unfold HeadBad at hh
        have ew : IntKind.i64.wrap (x1.v + x4.v) = b'.last := by rw [IntKind.wrap_i64, e1, e2]; omega
        rw [hb, ew, e1, e4, e5, e6, g1, hi', List.take_length]
      refine ⟨fun hk => ?_, fun hk => ?_⟩
      · have hk : b.chk = 0 := by simpa using hk
        (conv => arg 4; whnf); repeat (refine ⟨rfl, ?_⟩; conv => arg 4; whnf)
        refine call0 bytesEqual (ClL.cons (Cl.bs _) (ClL.cons (Cl.bs _) ClL.nil)) (Cl.bool _) ?_
        (conv => arg 4; whnf); repeat (refine ⟨rfl, ?_⟩; conv => arg 4; whnf)
        refine ⟨⟨b, b.out == p⟩, ⟨fun h => ⟨hk, ?_⟩, fun b' hg' => ⟨?_, hgood b' hg'⟩⟩, by decide, Le.tup (LeL.cons ?_ (LeL.cons (Le.refl _ _) (LeL.nil _))), trivial, Cl.tup (ClL.cons (Cl.bat _) (ClL.cons (Cl.bool _) ClL.nil)) _, trivial⟩
        · rw [← out_yes hk]; simpa using h
        · have e := hgood b' hg'
          rw [out_yes hk, e, hg'.2]; simp
        · rw [hb]; exact Le.agg (LeL.cons (Le.refl _ _) (LeL.cons (Le.refl _ _) (LeL.cons (Le.refl _ _) (LeL.cons (Le.refl _ _) (LeL.cons (Le.refl _ _) (LeL.cons (Le.none) (LeL.nil _)))))))
      · have hk : b.chk ≠ 0 := by simpa using hk
        (conv => arg 4; whnf); repeat (refine ⟨rfl, ?_⟩; conv => arg 4; whnf)
        refine ⟨⟨b, false⟩, ⟨fun h => (by cases h), fun b' hg' => absurd (by rw [hgood b' hg']; exact hg'.1) hk⟩, by decide, Le.tup (LeL.cons ?_ (LeL.cons Le.bl (LeL.nil _))), trivial, Cl.tup (ClL.cons (Cl.bat _) (ClL.cons (Cl.bool _) ClL.nil)) _, trivial⟩
        rw [hb]; exact Le.agg (LeL.cons (Le.refl _ _) (LeL.cons (Le.refl _ _) (LeL.cons (Le.refl _ _) (LeL.cons (Le.refl _ _) (LeL.cons (Le.refl _ _) (LeL.cons (Le.none) (LeL.nil _)))))))
end Go.Proofs.Ythclmkhkchbpiaa

namespace Go.Proofs.Ythclmkhkchbpiaa
set_option maxRecDepth 100000
set_option maxHeartbeats 80000000
open Go.Sym

/-- A batch with which the bytes begin. -/
def Bat.begins (b : Bat) (p : List UInt8) : Prop := b.chk = 0 ∧ b.enc <+: p

theorem fixedR_nonneg (b : List UInt8) (e size : Int) : 0 ≤ (fixedR b e size).1 ∧ ((fixedR b e size).1 < 4294967296 ∨ size ≠ 4) := by
  unfold fixedR
  split
  · simp only; omega
  · split
    · simp only; omega
    · simp only
      refine ⟨by omega, ?_⟩
      by_cases h : size = 4
      · subst h
        left
        have key : ∀ (l : List UInt8) (n : Nat), unfixed n l < (n + 1) * 256 ^ l.length := by
          intro l
          induction l with
          | nil => intro n; simp [unfixed]
          | cons c r ih =>
            intro n
            have h1 := ih (n * 256 + c.toNat)
            have h2 : c.toNat < 256 := c.toNat_lt
            unfold unfixed
            refine Nat.lt_of_lt_of_le h1 ?_
            rw [List.length_cons, Nat.pow_succ, Nat.mul_comm (256 ^ r.length) 256, ← Nat.mul_assoc]
            exact Nat.mul_le_mul_right _ (by omega)
        have h3 := key (b.take (4 : Int).toNat) 0
        have h4 : (b.take (4 : Int).toNat).length ≤ 4 := by simp; omega
        have h5 : 256 ^ (b.take (4 : Int).toNat).length ≤ 256 ^ 4 := Nat.pow_le_pow_right (by omega) h4
        have h6 : (256 : Nat) ^ 4 = 4294967296 := by decide
        omega
      · exact .inr h

structure FsX where
  b : Bat
  n : Nat
  e : Int

def Bat.none : Bat := ⟨0, 0, 0, 0, 0, []⟩

theorem batFirst {p : List UInt8} (hl : p.length ≤ 1000000000) : CallOK Try.prog 40 [bs p] [] 0
    (fun a h m => ∃ x : FsX, ((x.e = 0 ∧ x.b.begins p ∧ x.n = x.b.enc.length ∧ ∀ b : Bat, b.begins p → x.b = b) ∨ (x.e = 2 ∧ x.b = Bat.none ∧ x.n = 0 ∧ ∀ b : Bat, ¬ b.begins p)) ∧ Out (.tup [x.b.av, .int .i64 x.n, .int .i64 x.e]) [] 0 a h m) := by
  refine CallOK.fitE (by decide) ?_
  refine callOK Try.call40 Try.func40 Try.ntmps40 rfl ?_
  conv => arg 4; whnf
  have hm : (if (12 : Int) < ((u8s p).length : Int) then (12 : Int) else ((u8s p).length : Int)) = ((min 12 p.length : Nat) : Int) := by rw [u8s_length]; split <;> omega
  refine ⟨by rw [hm, u8s_length]; omega, ?_⟩
  (conv => arg 4; whnf); repeat (refine ⟨rfl, ?_⟩; conv => arg 4; whnf)
  refine holds_args (args' := [bs (p.take 12)]) ⟨Le.of_eq (congrArg (AV.sl .none 0) ?_), trivial⟩ ?_
  · have ht : p.take (min 12 p.length) = p.take 12 := by
      rw [Nat.min_def]; split
      · rfl
      · rw [List.take_of_length_le (Nat.le_refl _), List.take_of_length_le (by omega)]
    rw [hm, Int.toNat_natCast, u8s_take, ht]
  refine callNew (newReader (b := p.take 12) (by simp; omega)) (ClL.cons (Cl.bs _) ClL.nil) (ClO.RO _ _) ?_
  (conv => arg 4; whnf); repeat (refine ⟨rfl, ?_⟩; conv => arg 4; whnf)
  refine call1E 1 (rFixedE (b := p.take 12) (e := 0) (size := 8) (by unfold I64; omega) (by simp; omega)) rfl rfl (ClO.RO _ _) (fun x => ClO.RO _ _) rfl (fun x => Cl.int _ _) fun x1 h1 => ?_
  have l1 := h1.2.length_le
  have l0 : (p.take 12).length ≤ p.length := by simp; omega
  (conv => arg 4; whnf); repeat (refine ⟨rfl, ?_⟩; conv => arg 4; whnf)
  refine call1E 1 (rFixedE (b := x1.r) (e := x1.e) (size := 4) (by unfold I64; omega) (by omega)) rfl rfl (ClO.RO _ _) (fun x => ClO.RO _ _) rfl (fun x => Cl.int _ _) fun x2 h2 => ?_
  have hp2 := fixedR_nonneg x1.r x1.e 4
  rw [h2.1] at hp2
  simp only at hp2
  (conv => arg 4; whnf); repeat (refine ⟨rfl, ?_⟩; conv => arg 4; whnf)
  refine call1 1 rErrE rfl rfl (ClO.RO _ _) (ClO.RO _ _) rfl (Cl.int _ _) ?_
  (conv => arg 4; whnf); repeat (refine ⟨rfl, ?_⟩; conv => arg 4; whnf)
  have hw : IntKind.i64.wrap (12 + x2.v) = 12 + x2.v := by rw [IntKind.wrap_i64]; omega
  -- what begins with a batch
  have gb : ∀ b : Bat, b.begins p → x2.e = 0 ∧ 12 + x2.v = (b.enc.length : Int) ∧ b.enc.length ≤ p.length ∧ b.enc.length ≤ 65536 := fun b hb => by
    obtain ⟨t, ht⟩ := hb.2
    obtain ⟨hf, hle, -⟩ := chk_fine hb.1
    have hh := hf.head
    have hr := rest_len hf
    unfold HeadBad at hh
    have hp : p.take 12 = fixed b.base.toNat 8 ++ (fixed (b.rest.length + 4) 4 ++ []) := by
      rw [← ht, Bat.enc, List.append_assoc, List.append_assoc, List.append_assoc, ← List.append_assoc (fixed b.base.toNat 8), List.take_left' (by rw [List.length_append, fixed_len, fixed_len]), List.append_nil]
    have h1 := h1.1
    have h2 := h2.1
    rw [hp, fx8 (by omega) (by omega)] at h1
    obtain ⟨x1v, x1r, x1e⟩ := x1
    simp only [Prod.mk.injEq] at h1
    obtain ⟨rfl, rfl, rfl⟩ := h1
    simp only at h2
    rw [fx4n (by omega)] at h2
    simp only [Prod.mk.injEq] at h2
    have hlen : b.enc.length ≤ p.length := by rw [← ht, List.length_append]; omega
    refine ⟨h2.2.2.symm, ?_, hlen, hle⟩
    rw [← h2.1, batE_len]; omega
  refine ⟨fun hc => ?_, fun hc => ?_⟩
  · simp only [Bool.cond_true_left, Bool.cond_false_right, Bool.or_eq_true, Bool.and_eq_true, Bool.not_eq_true', decide_eq_true_eq, beq_iff_eq, bne_iff_ne, u8s_length, Bool.not_eq_true, gt_iff_lt, ge_iff_le] at hc
    rw [hw] at hc
    (conv => arg 4; whnf); repeat (refine ⟨rfl, ?_⟩; conv => arg 4; whnf)
    refine ⟨⟨Bat.none, 0, 2⟩, .inr ⟨rfl, rfl, rfl, fun b hb => ?_⟩, by decide, Le.tup (LeL.cons (Le.agg (LeL.cons (Le.refl _ _) (LeL.cons (Le.refl _ _) (LeL.cons (Le.refl _ _) (LeL.cons (Le.refl _ _) (LeL.cons (Le.refl _ _) (LeL.cons (Le.nils) (LeL.nil _)))))))) (LeL.cons (Le.refl _ _) (LeL.cons (Le.refl _ _) (LeL.nil _)))), trivial, Cl.tup (ClL.cons (Cl.bat _) (ClL.cons (Cl.int _ _) (ClL.cons (Cl.int _ _) ClL.nil))) _, trivial⟩
    obtain ⟨g1, g2, g3, g4⟩ := gb b hb
    omega
  · rw [← Bool.not_eq_true] at hc; simp only [Bool.cond_true_left, Bool.cond_false_right, Bool.or_eq_true, Bool.and_eq_true, Bool.not_eq_true', decide_eq_true_eq, beq_iff_eq, bne_iff_ne, u8s_length, gt_iff_lt, ge_iff_le] at hc
    rw [hw] at hc
    (conv => arg 4; whnf); repeat (refine ⟨rfl, ?_⟩; conv => arg 4; whnf)
    refine ⟨by rw [hw, u8s_length]; omega, ?_⟩
    (conv => arg 4; whnf); repeat (refine ⟨rfl, ?_⟩; conv => arg 4; whnf)
    obtain ⟨u, hu⟩ : ∃ u : Nat, (u : Int) = 12 + x2.v := ⟨(12 + x2.v).toNat, by omega⟩
    refine holds_args (args' := [bs (p.take u)]) ⟨Le.of_eq (congrArg (AV.sl .none 0) (by rw [hw, ← hu, Int.toNat_natCast, u8s_take])), trivial⟩ ?_
    refine call0E (batRead (by simp; omega)) (ClL.cons (Cl.bs _) ClL.nil) (fun x => Cl.tup (ClL.cons (Cl.bat _) (ClL.cons (Cl.bool _) ClL.nil))) fun y hy => ?_
    (conv => arg 4; whnf); repeat (refine ⟨rfl, ?_⟩; conv => arg 4; whnf)
    have gg : ∀ b : Bat, b.begins p → b.good (p.take u) := fun b hb => by
      obtain ⟨g1, g2, g3, g4⟩ := gb b hb
      obtain ⟨t, ht⟩ := hb.2
      refine ⟨hb.1, ?_⟩
      rw [← ht, List.take_left' (by omega)]
    refine ⟨fun hk => ?_, fun hk => ?_⟩
    · have hk : y.ok = false := by simpa using hk
      (conv => arg 4; whnf); repeat (refine ⟨rfl, ?_⟩; conv => arg 4; whnf)
      refine ⟨⟨Bat.none, 0, 2⟩, .inr ⟨rfl, rfl, rfl, fun b hb => ?_⟩, by decide, Le.tup (LeL.cons (Le.agg (LeL.cons (Le.refl _ _) (LeL.cons (Le.refl _ _) (LeL.cons (Le.refl _ _) (LeL.cons (Le.refl _ _) (LeL.cons (Le.refl _ _) (LeL.cons (Le.nils) (LeL.nil _)))))))) (LeL.cons (Le.refl _ _) (LeL.cons (Le.refl _ _) (LeL.nil _)))), trivial, Cl.tup (ClL.cons (Cl.bat _) (ClL.cons (Cl.int _ _) (ClL.cons (Cl.int _ _) ClL.nil))) _, trivial⟩
      have := (hy.2 b (gg b hb)).1
      rw [hk] at this; cases this
    · have hk : y.ok = true := by simpa using hk
      obtain ⟨y1, y2⟩ := hy.1 hk
      have yl : y.b.enc.length = u := by rw [y2, List.length_take]; omega
      (conv => arg 4; whnf); repeat (refine ⟨rfl, ?_⟩; conv => arg 4; whnf)
      refine ⟨⟨y.b, u, 0⟩, .inl ⟨rfl, ⟨y1, by rw [y2]; exact List.take_prefix _ _⟩, yl.symm, fun b hb => (hy.2 b (gg b hb)).2⟩, by decide, Le.tup (LeL.cons (Le.refl _ _) (LeL.cons (Le.of_eq (congrArg _ (by rw [hw, hu]))) (LeL.cons (Le.refl _ _) (LeL.nil _)))), trivial, Cl.tup (ClL.cons (Cl.bat _) (ClL.cons (Cl.int _ _) (ClL.cons (Cl.int _ _) ClL.nil))) _, trivial⟩
end Go.Proofs.Ythclmkhkchbpiaa

namespace Go.Proofs.Ythclmkhkchbpiaa
set_option maxRecDepth 100000
set_option maxHeartbeats 80000000
open Go.Sym

open Classical in
noncomputable def firstB (p : List UInt8) : Bat := if h : ∃ b : Bat, b.begins p then Classical.choose h else Bat.none
open Classical in
noncomputable def firstN (p : List UInt8) : Nat := if ∃ b : Bat, b.begins p then (firstB p).enc.length else 0
open Classical in
noncomputable def firstE (p : List UInt8) : Int := if ∃ b : Bat, b.begins p then 0 else 2

theorem first_spec {p : List UInt8} {x : FsX} (h : (x.e = 0 ∧ x.b.begins p ∧ x.n = x.b.enc.length ∧ ∀ b : Bat, b.begins p → x.b = b) ∨ (x.e = 2 ∧ x.b = Bat.none ∧ x.n = 0 ∧ ∀ b : Bat, ¬ b.begins p)) : x.b = firstB p ∧ x.n = firstN p ∧ x.e = firstE p := by
  rcases h with ⟨h1, h2, h3, h4⟩ | ⟨h1, h2, h3, h4⟩
  · have he : ∃ b : Bat, b.begins p := ⟨_, h2⟩
    have hb : x.b = firstB p := by
      unfold firstB
      rw [dif_pos he]
      exact h4 _ (Classical.choose_spec he)
    exact ⟨hb, by rw [firstN, if_pos he, ← hb, h3], by rw [firstE, if_pos he, h1]⟩
  · have he : ¬ ∃ b : Bat, b.begins p := fun ⟨b, hb⟩ => h4 b hb
    exact ⟨by rw [firstB, dif_neg he, h2], by rw [firstN, if_neg he, h3], by rw [firstE, if_neg he, h1]⟩
theorem first_yes {p : List UInt8} (h : firstE p = 0) : (firstB p).begins p ∧ firstN p = (firstB p).enc.length := by
  unfold firstE at h
  split at h
  · rename_i he
    refine ⟨?_, by rw [firstN, if_pos he]⟩
    unfold firstB
    rw [dif_pos he]
    exact Classical.choose_spec he
  · cases h
theorem first_no {p : List UInt8} (h : firstE p ≠ 0) : firstE p = 2 ∧ firstB p = Bat.none ∧ firstN p = 0 ∧ ∀ b : Bat, ¬ b.begins p := by
  have he : ¬ ∃ b : Bat, b.begins p := fun he => h (by rw [firstE, if_pos he])
  exact ⟨by rw [firstE, if_neg he], by rw [firstB, dif_neg he], by rw [firstN, if_neg he], fun b hb => he ⟨b, hb⟩⟩

noncomputable def firstA (p : List UInt8) : AV := .tup [(firstB p).av, .int .i64 (firstN p), .int .i64 (firstE p)]
theorem Cl.firstA (p : List UInt8) : Cl (firstA p) := Cl.tup (ClL.cons (Cl.bat _) (ClL.cons (Cl.int _ _) (ClL.cons (Cl.int _ _) ClL.nil)))

theorem batFirst' {p : List UInt8} (hl : p.length ≤ 1000000000) : CallOK Try.prog 40 [bs p] [] 0 (Out (Go.Proofs.Ythclmkhkchbpiaa.firstA p) [] 0) :=
  (batFirst hl).mono fun a h m ⟨x, hx, e1, e2, e3⟩ => by
    obtain ⟨q1, q2, q3⟩ := first_spec hx
    rw [q1, q2, q3] at e1
    exact ⟨e1, e2, e3⟩

/-- The batch that bytes are; an error. -/
noncomputable def decB (p : List UInt8) : Bat := if firstN p = p.length then firstB p else Bat.none
noncomputable def decE (p : List UInt8) : Int := if firstE p = 0 ∧ firstN p = p.length then 0 else 2

theorem batDecode {p : List UInt8} (hl : p.length ≤ 1000000000) : CallOK Try.prog 38 [bs p] [] 0 (Out (.tup [(decB p).av, .int .i64 (decE p)]) [] 0) := by
  refine CallOK.fit (by decide) ?_
  refine callOK Try.call38 Try.func38 Try.ntmps38 rfl ?_
  conv => arg 4; whnf
  refine call0 (batFirst' hl) (ClL.cons (Cl.bs _) ClL.nil) (Cl.firstA p) ?_
  (conv => arg 4; whnf); repeat (refine ⟨rfl, ?_⟩; conv => arg 4; whnf)
  refine ⟨fun h => ?_, fun h => ?_⟩
  · simp only [Bool.cond_true_left, Bool.cond_false_right, Bool.or_eq_true, Bool.and_eq_true, Bool.not_eq_true', decide_eq_true_eq, beq_iff_eq, bne_iff_ne, u8s_length, Bool.not_eq_true, gt_iff_lt, ge_iff_le] at h
    (conv => arg 4; whnf); repeat (refine ⟨rfl, ?_⟩; conv => arg 4; whnf)
    have hn : ¬ (firstE p = 0 ∧ firstN p = p.length) := by omega
    have hb : decB p = Bat.none := by
      unfold decB
      by_cases h0 : firstE p = 0
      · rw [if_neg (by omega)]
      · rw [(first_no h0).2.1]; simp
    have he : decE p = 2 := by unfold decE; rw [if_neg hn]
    refine ⟨by decide, Le.tup (LeL.cons ?_ (LeL.cons (Le.of_eq (by rw [he])) (LeL.nil _))), trivial, Cl.tup (ClL.cons (Cl.bat _) (ClL.cons (Cl.int _ _) ClL.nil)) _, trivial⟩
    rw [hb]; exact Le.agg (LeL.cons (Le.refl _ _) (LeL.cons (Le.refl _ _) (LeL.cons (Le.refl _ _) (LeL.cons (Le.refl _ _) (LeL.cons (Le.refl _ _) (LeL.cons (Le.nils) (LeL.nil _)))))))
  · rw [← Bool.not_eq_true] at h; simp only [Bool.cond_true_left, Bool.cond_false_right, Bool.or_eq_true, Bool.and_eq_true, Bool.not_eq_true', decide_eq_true_eq, beq_iff_eq, bne_iff_ne, u8s_length, gt_iff_lt, ge_iff_le] at h
    (conv => arg 4; whnf); repeat (refine ⟨rfl, ?_⟩; conv => arg 4; whnf)
    have hy : firstE p = 0 ∧ firstN p = p.length := by omega
    have hb : decB p = firstB p := by unfold decB; rw [if_pos hy.2]
    have he : decE p = 0 := by unfold decE; rw [if_pos hy]
    refine ⟨by decide, Le.tup (LeL.cons (Le.of_eq (by rw [hb]; rfl)) (LeL.cons (Le.of_eq (by rw [he])) (LeL.nil _))), trivial, Cl.tup (ClL.cons (Cl.bat _) (ClL.cons (Cl.int _ _) ClL.nil)) _, trivial⟩
end Go.Proofs.Ythclmkhkchbpiaa

namespace Go.Proofs.Ythclmkhkchbpiaa
set_option maxRecDepth 100000
set_option maxHeartbeats 80000000
open Go.Sym

/-- A record that may stand in a batch. -/
structure Rec.wf (r : Rec) (first base : Int) : Prop where
  w : r.wr first base
  t1 : -1125899906842624 ≤ r.time - first
  t2 : r.time - first ≤ 1125899906842624
  o1 : 0 ≤ r.off - base
  o2 : r.off - base ≤ 4611686018427387904

theorem Cl.getB (b : List UInt8) : Cl (getB b) := by
  unfold Go.Proofs.Ythclmkhkchbpiaa.getB
  cases getL 0 0 b with
  | none => exact Cl.tup (ClL.cons (Cl.int _ _) (ClL.cons (Cl.int _ _) ClL.nil))
  | some x => exact Cl.tup (ClL.cons (Cl.int _ _) (ClL.cons (Cl.int _ _) ClL.nil))

structure GtX where
  n : Int
  k : Nat

/-- A number read: the number, and how many bytes. -/
theorem refGetE {b : List UInt8} (hb : b.length ≤ 100000000000000) : CallOK Try.prog 27 [bs b] [] 0
    (fun a h m => ∃ x : GtX, (x.k ≤ b.length ∧ ∀ (n : Int) r, I64 n → b = put n ++ r → x.n = n ∧ x.k = (put n).length ∧ 0 < x.k) ∧ Out (.tup [.int .i64 x.n, .int .i64 x.k]) [] 0 a h m) :=
  (refGet hb).mono fun a h m ⟨e1, e2, e3⟩ => by
    cases hg : getL 0 0 b with
    | none =>
      refine ⟨⟨0, 0⟩, ⟨Nat.zero_le _, fun n r hn e => ?_⟩, by rw [e1, getB, hg]; rfl, e2, e3⟩
      rw [e, getL_at hn] at hg; cases hg
    | some x =>
      obtain ⟨u, k⟩ := x
      have := getL_le hg
      refine ⟨⟨zag u, k⟩, ⟨by simpa using this.1, fun n r hn e => ?_⟩, by rw [e1, getB, hg], e2, e3⟩
      rw [e, getL_at hn] at hg
      simp only [Option.some.injEq, Prod.mk.injEq] at hg
      obtain ⟨rfl, rfl⟩ := hg
      exact ⟨zag_zig hn, rfl, by simp only; omega⟩

theorem opt_gt {q : List UInt8} {x : GtX} {has : Bool} {l rest : List UInt8} (hx : ∀ (n : Int) r, I64 n → q = put n ++ r → x.n = n ∧ x.k = (put n).length ∧ 0 < x.k) (hq : q = opt has l ++ rest) (hl : l.length ≤ 65536) (h0 : has = false → l = []) :
    0 < x.k ∧ (has = true → x.n = (l.length : Int) ∧ q.drop x.k = l ++ rest) ∧ (has = false → x.n = -1 ∧ q.drop x.k = rest) := by
  cases has with
  | true =>
    rw [opt_yes, List.append_assoc] at hq
    obtain ⟨e1, e2, e3⟩ := hx _ _ (by unfold I64; omega) hq
    exact ⟨e3, ⟨fun _ => ⟨e1, by rw [e2, hq, List.drop_left]⟩, fun h => (by cases h)⟩⟩
  | false =>
    rw [opt_no] at hq
    obtain ⟨e1, e2, e3⟩ := hx _ _ (by unfold I64; omega) hq
    exact ⟨e3, ⟨fun h => (by cases h), fun _ => ⟨e1, by rw [e2, hq, List.drop_left]⟩⟩⟩

structure RrI (P : List UInt8) (first base : Int) where
  i : Nat
  p : List UInt8
  hk : Bool
  key : List UInt8
  hv : Bool
  val : List UInt8
  hi : i ≤ 2
  hp : p.length ≤ 1000000000
  h : ∀ r : Rec, r.wf first base → P = r.body first base → (i = 0 → hk = false ∧ key = [] ∧ hv = false ∧ val = [] ∧ p = opt r.hk r.key ++ opt r.hv r.val) ∧
    (i = 1 → hk = r.hk ∧ key = r.key ∧ hv = false ∧ val = [] ∧ p = opt r.hv r.val) ∧ (i = 2 → hk = r.hk ∧ key = r.key ∧ hv = r.hv ∧ val = r.val ∧ p = [])

theorem refReadRec {p : List UInt8} {base first : Int} (hl : p.length ≤ 1000000000) : CallOK Try.prog 82 [bs p, .int .i64 first, .int .i64 base] [] 0
    (fun a h m => ∃ x : BdX, (∀ r : Rec, r.wf first base → p = r.body first base → x.ok = true ∧ x.x = r) ∧ Out (.tup [x.x.av, .bool x.ok]) [] 0 a h m) := by
  refine CallOK.fitE (by decide) ?_
  refine callOK Try.call82 Try.func82 Try.ntmps82 rfl ?_
  conv => arg 4; whnf
  refine call0E (refGetE (b := p) (by omega)) (by (repeat' (first | with_reducible assumption | exact ClL.nil | exact Cl.int _ _ | exact Cl.bool _ | exact Cl.bl _ | exact Cl.bs _ | exact Cl.str _ | exact Cl.nils | exact Cl.nilp | exact Cl.rec _ | exact Cl.bat _ | exact Cl.recsV _ | exact Cl.strsV _ | exact Cl.intsV _ | exact Cl.req _ | exact Cl.rsp _ | exact Cl.reqA _ | exact Cl.rspA _ | exact Cl.batsV _ | exact Cl.getB _ | exact Cl.encA _ | exact Cl.firstA _ | refine ClL.cons ?_ ?_ | refine Cl.tup ?_ | refine Cl.agg ?_ | exact ClO.RO _ _))) (fun x => by (repeat' (first | with_reducible assumption | exact ClL.nil | exact Cl.int _ _ | exact Cl.bool _ | exact Cl.bl _ | exact Cl.bs _ | exact Cl.str _ | exact Cl.nils | exact Cl.nilp | exact Cl.rec _ | exact Cl.bat _ | exact Cl.recsV _ | exact Cl.strsV _ | exact Cl.intsV _ | exact Cl.req _ | exact Cl.rsp _ | exact Cl.reqA _ | exact Cl.rspA _ | exact Cl.batsV _ | exact Cl.getB _ | exact Cl.encA _ | exact Cl.firstA _ | refine ClL.cons ?_ ?_ | refine Cl.tup ?_ | refine Cl.agg ?_ | exact ClO.RO _ _))) fun x1 h1 => ?_
  (conv => arg 4; whnf); repeat (refine ⟨rfl, ?_⟩; conv => arg 4; whnf)
  have g1 : ∀ r : Rec, r.wf first base → p = r.body first base → x1.n = r.time - first ∧ x1.k = (put (r.time - first)).length ∧ 0 < x1.k := fun r hr hp => h1.2 _ _ hr.w.t (by rw [hp, Rec.body, List.append_assoc, List.append_assoc])
  refine ⟨fun he => ?_, fun he => ?_⟩
  · have he : x1.k = 0 := by simpa using he
    (conv => arg 4; whnf); repeat (refine ⟨rfl, ?_⟩; conv => arg 4; whnf)
    refine ⟨⟨⟨0, 0, false, [], false, []⟩, false⟩, fun r hr hp => ?_, by decide, by (repeat' (first | with_reducible exact Le.refl _ _ | exact Le.bl | exact Le.lb | exact Le.nils | exact Le.nilsFull | exact Le.none | exact LeL.nil _ | refine LeL.cons ?_ ?_ | refine Le.tup ?_ | refine Le.agg ?_ | exact Le.refl _ _ | exact LeL.refl _ _)), trivial, (by (repeat' (first | with_reducible assumption | exact ClL.nil | exact Cl.int _ _ | exact Cl.bool _ | exact Cl.bl _ | exact Cl.bs _ | exact Cl.str _ | exact Cl.nils | exact Cl.nilp | exact Cl.rec _ | exact Cl.bat _ | exact Cl.recsV _ | exact Cl.strsV _ | exact Cl.intsV _ | exact Cl.req _ | exact Cl.rsp _ | exact Cl.reqA _ | exact Cl.rspA _ | exact Cl.batsV _ | exact Cl.getB _ | exact Cl.encA _ | exact Cl.firstA _ | refine ClL.cons ?_ ?_ | refine Cl.tup ?_ | refine Cl.agg ?_ | exact ClO.RO _ _)) : Cl _) _, trivial⟩
    have := g1 r hr hp
    omega
  · have he : x1.k ≠ 0 := by simpa using he
    (conv => arg 4; whnf); repeat (refine ⟨rfl, ?_⟩; conv => arg 4; whnf)
    refine ⟨by rw [u8s_length]; omega, ?_⟩
    (conv => arg 4; whnf); repeat (refine ⟨rfl, ?_⟩; conv => arg 4; whnf)
    refine holds_args (args' := [bs (p.drop x1.k)]) ⟨Le.of_eq (congrArg (AV.sl .none 0) (by rw [Int.toNat_natCast, u8s_drop])), trivial⟩ ?_
    refine call0E (refGetE (b := p.drop x1.k) (by simp; omega)) (by (repeat' (first | with_reducible assumption | exact ClL.nil | exact Cl.int _ _ | exact Cl.bool _ | exact Cl.bl _ | exact Cl.bs _ | exact Cl.str _ | exact Cl.nils | exact Cl.nilp | exact Cl.rec _ | exact Cl.bat _ | exact Cl.recsV _ | exact Cl.strsV _ | exact Cl.intsV _ | exact Cl.req _ | exact Cl.rsp _ | exact Cl.reqA _ | exact Cl.rspA _ | exact Cl.batsV _ | exact Cl.getB _ | exact Cl.encA _ | exact Cl.firstA _ | refine ClL.cons ?_ ?_ | refine Cl.tup ?_ | refine Cl.agg ?_ | exact ClO.RO _ _))) (fun x => by (repeat' (first | with_reducible assumption | exact ClL.nil | exact Cl.int _ _ | exact Cl.bool _ | exact Cl.bl _ | exact Cl.bs _ | exact Cl.str _ | exact Cl.nils | exact Cl.nilp | exact Cl.rec _ | exact Cl.bat _ | exact Cl.recsV _ | exact Cl.strsV _ | exact Cl.intsV _ | exact Cl.req _ | exact Cl.rsp _ | exact Cl.reqA _ | exact Cl.rspA _ | exact Cl.batsV _ | exact Cl.getB _ | exact Cl.encA _ | exact Cl.firstA _ | refine ClL.cons ?_ ?_ | refine Cl.tup ?_ | refine Cl.agg ?_ | exact ClO.RO _ _))) fun x2 h2 => ?_
    have h2l := h2.1
    rw [List.length_drop] at h2l
    (conv => arg 4; whnf); repeat (refine ⟨rfl, ?_⟩; conv => arg 4; whnf)
    have g2 : ∀ r : Rec, r.wf first base → p = r.body first base → x2.n = r.off - base ∧ 0 < x2.k ∧ p.drop (x1.k + x2.k) = opt r.hk r.key ++ opt r.hv r.val := fun r hr hp => by
      obtain ⟨q1, q2, q3⟩ := g1 r hr hp
      have e : p.drop x1.k = put (r.off - base) ++ (opt r.hk r.key ++ opt r.hv r.val) := by
        rw [q2, hp, Rec.body, List.append_assoc, List.append_assoc, List.drop_left]
      obtain ⟨p1, p2, p3⟩ := h2.2 _ _ hr.w.o e
      exact ⟨p1, p3, by rw [← List.drop_drop, e, p2, List.drop_left]⟩
    refine ⟨fun he2 => ?_, fun he2 => ?_⟩
    · have he2 : x2.k = 0 := by simpa using he2
      (conv => arg 4; whnf); repeat (refine ⟨rfl, ?_⟩; conv => arg 4; whnf)
      refine ⟨⟨⟨0, 0, false, [], false, []⟩, false⟩, fun r hr hp => ?_, by decide, by (repeat' (first | with_reducible exact Le.refl _ _ | exact Le.bl | exact Le.lb | exact Le.nils | exact Le.nilsFull | exact Le.none | exact LeL.nil _ | refine LeL.cons ?_ ?_ | refine Le.tup ?_ | refine Le.agg ?_ | exact Le.refl _ _ | exact LeL.refl _ _)), trivial, (by (repeat' (first | with_reducible assumption | exact ClL.nil | exact Cl.int _ _ | exact Cl.bool _ | exact Cl.bl _ | exact Cl.bs _ | exact Cl.str _ | exact Cl.nils | exact Cl.nilp | exact Cl.rec _ | exact Cl.bat _ | exact Cl.recsV _ | exact Cl.strsV _ | exact Cl.intsV _ | exact Cl.req _ | exact Cl.rsp _ | exact Cl.reqA _ | exact Cl.rspA _ | exact Cl.batsV _ | exact Cl.getB _ | exact Cl.encA _ | exact Cl.firstA _ | refine ClL.cons ?_ ?_ | refine Cl.tup ?_ | refine Cl.agg ?_ | exact ClO.RO _ _)) : Cl _) _, trivial⟩
      have := g2 r hr hp
      omega
    · have he2 : x2.k ≠ 0 := by simpa using he2
      (conv => arg 4; whnf); repeat (refine ⟨rfl, ?_⟩; conv => arg 4; whnf)
      have hw : IntKind.i64.wrap ((x1.k : Int) + x2.k) = ((x1.k + x2.k : Nat) : Int) := by rw [IntKind.wrap_i64]; omega
      refine ⟨by rw [hw, u8s_length]; omega, ?_⟩
      (conv => arg 4; whnf); repeat (refine ⟨rfl, ?_⟩; conv => arg 4; whnf)
      refine ⟨fun h3 => ?_, fun h3 => ?_⟩
      · simp only [Bool.cond_true_left, Bool.cond_false_right, Bool.or_eq_true, Bool.and_eq_true, Bool.not_eq_true', decide_eq_true_eq, beq_iff_eq, bne_iff_ne, u8s_length, Bool.not_eq_true, gt_iff_lt, ge_iff_le] at h3
        (conv => arg 4; whnf); repeat (refine ⟨rfl, ?_⟩; conv => arg 4; whnf)
        refine ⟨⟨⟨0, 0, false, [], false, []⟩, false⟩, fun r hr hp => ?_, by decide, by (repeat' (first | with_reducible exact Le.refl _ _ | exact Le.bl | exact Le.lb | exact Le.nils | exact Le.nilsFull | exact Le.none | exact LeL.nil _ | refine LeL.cons ?_ ?_ | refine Le.tup ?_ | refine Le.agg ?_ | exact Le.refl _ _ | exact LeL.refl _ _)), trivial, (by (repeat' (first | with_reducible assumption | exact ClL.nil | exact Cl.int _ _ | exact Cl.bool _ | exact Cl.bl _ | exact Cl.bs _ | exact Cl.str _ | exact Cl.nils | exact Cl.nilp | exact Cl.rec _ | exact Cl.bat _ | exact Cl.recsV _ | exact Cl.strsV _ | exact Cl.intsV _ | exact Cl.req _ | exact Cl.rsp _ | exact Cl.reqA _ | exact Cl.rspA _ | exact Cl.batsV _ | exact Cl.getB _ | exact Cl.encA _ | exact Cl.firstA _ | refine ClL.cons ?_ ?_ | refine Cl.tup ?_ | refine Cl.agg ?_ | exact ClO.RO _ _)) : Cl _) _, trivial⟩
        have e1 := g1 r hr hp
        have e2 := g2 r hr hp
        obtain ⟨_, t1, t2, o1, o2⟩ := hr
        omega
      · rw [← Bool.not_eq_true] at h3; simp only [Bool.cond_true_left, Bool.cond_false_right, Bool.or_eq_true, Bool.and_eq_true, Bool.not_eq_true', decide_eq_true_eq, beq_iff_eq, bne_iff_ne, u8s_length, gt_iff_lt, ge_iff_le] at h3
        (conv => arg 4; whnf); repeat (refine ⟨rfl, ?_⟩; conv => arg 4; whnf)
        refine tri_loopG (ι := RrI p first base) (fun a => ⟨[(13, .int .i64 a.i), (12, .ptr 1 0), (7, .bl false), (6, .ptr 0 0), (0, bs a.p)], [(1, .cells [.int .i64 (IntKind.i64.wrap (base + x2.n)), .int .i64 (IntKind.i64.wrap (first + x1.n)), .bool a.hk, bs a.key, .bool a.hv, bs a.val]), (0, .cells [.int .i64 0, .int .i64 0, .bl false, .nils, .bl false, .nils])], 2, 113⟩) (fun a => 2 - a.i) ⟨0, p.drop (x1.k + x2.k), false, [], false, [], by omega, by simp; omega, fun r hr hp => ⟨fun _ => ⟨rfl, rfl, rfl, rfl, (g2 r hr hp).2.2⟩, fun h => absurd h (by decide), fun h => absurd h (by decide)⟩⟩ (WkG.of rfl rfl ⟨Le.refl _ _, Le.refl _ _, Le.refl _ _, Le.refl _ _, Le.of_eq (congrArg (AV.sl .none 0) (by rw [hw, Int.toNat_natCast, u8s_drop])), trivial⟩ ⟨⟨_, rfl, by show LeL _ _ _; (repeat' (first | with_reducible exact Le.refl _ _ | exact Le.bl | exact Le.lb | exact Le.nils | exact Le.nilsFull | exact Le.none | exact LeL.nil _ | refine LeL.cons ?_ ?_ | refine Le.tup ?_ | refine Le.agg ?_ | exact Le.refl _ _ | exact LeL.refl _ _))⟩, ⟨_, rfl, LeO.refl _ _⟩, trivial⟩ ⟨rfl, rfl, rfl, rfl, (by (repeat' (first | with_reducible assumption | exact ClL.nil | exact Cl.int _ _ | exact Cl.bool _ | exact Cl.bl _ | exact Cl.bs _ | exact Cl.str _ | exact Cl.nils | exact Cl.nilp | exact Cl.rec _ | exact Cl.bat _ | exact Cl.recsV _ | exact Cl.strsV _ | exact Cl.intsV _ | exact Cl.req _ | exact Cl.rsp _ | exact Cl.reqA _ | exact Cl.rspA _ | exact Cl.batsV _ | exact Cl.getB _ | exact Cl.encA _ | exact Cl.firstA _ | refine ClL.cons ?_ ?_ | refine Cl.tup ?_ | refine Cl.agg ?_ | exact ClO.RO _ _)) : Cl _) _, trivial⟩ ⟨⟨by decide, ClO.cells (by (repeat' (first | with_reducible assumption | exact ClL.nil | exact Cl.int _ _ | exact Cl.bool _ | exact Cl.bl _ | exact Cl.bs _ | exact Cl.str _ | exact Cl.nils | exact Cl.nilp | exact Cl.rec _ | exact Cl.bat _ | exact Cl.recsV _ | exact Cl.strsV _ | exact Cl.intsV _ | exact Cl.req _ | exact Cl.rsp _ | exact Cl.reqA _ | exact Cl.rspA _ | exact Cl.batsV _ | exact Cl.getB _ | exact Cl.encA _ | exact Cl.firstA _ | refine ClL.cons ?_ ?_ | refine Cl.tup ?_ | refine Cl.agg ?_ | exact ClO.RO _ _))) _⟩, ⟨by decide, rfl⟩, trivial⟩) ?_
        rintro ⟨i, q, hk, key, hv, val, hi, hq, hh⟩
        dsimp only
        conv => arg 4; whnf
        refine ⟨fun hlt => ?_, fun hlt => ?_⟩
        · have hlt : i < 2 := by simp at hlt; omega
          (conv => arg 4; whnf); repeat (refine ⟨rfl, ?_⟩; conv => arg 4; whnf)
          refine call0E (refGetE (b := q) (by omega)) (by (repeat' (first | with_reducible assumption | exact ClL.nil | exact Cl.int _ _ | exact Cl.bool _ | exact Cl.bl _ | exact Cl.bs _ | exact Cl.str _ | exact Cl.nils | exact Cl.nilp | exact Cl.rec _ | exact Cl.bat _ | exact Cl.recsV _ | exact Cl.strsV _ | exact Cl.intsV _ | exact Cl.req _ | exact Cl.rsp _ | exact Cl.reqA _ | exact Cl.rspA _ | exact Cl.batsV _ | exact Cl.getB _ | exact Cl.encA _ | exact Cl.firstA _ | refine ClL.cons ?_ ?_ | refine Cl.tup ?_ | refine Cl.agg ?_ | exact ClO.RO _ _))) (fun x => by (repeat' (first | with_reducible assumption | exact ClL.nil | exact Cl.int _ _ | exact Cl.bool _ | exact Cl.bl _ | exact Cl.bs _ | exact Cl.str _ | exact Cl.nils | exact Cl.nilp | exact Cl.rec _ | exact Cl.bat _ | exact Cl.recsV _ | exact Cl.strsV _ | exact Cl.intsV _ | exact Cl.req _ | exact Cl.rsp _ | exact Cl.reqA _ | exact Cl.rspA _ | exact Cl.batsV _ | exact Cl.getB _ | exact Cl.encA _ | exact Cl.firstA _ | refine ClL.cons ?_ ?_ | refine Cl.tup ?_ | refine Cl.agg ?_ | exact ClO.RO _ _))) fun x3 h4 => ?_
          (conv => arg 4; whnf); repeat (refine ⟨rfl, ?_⟩; conv => arg 4; whnf)
          have gx : ∀ r : Rec, r.wf first base → p = r.body first base → 0 < x3.k ∧ ((i = 0 ∧ r.hk = true ∨ i = 1 ∧ r.hv = true) ∧ 0 ≤ x3.n ∧ x3.n ≤ (q.length : Int) - x3.k ∨ (i = 0 ∧ r.hk = false ∨ i = 1 ∧ r.hv = false) ∧ x3.n = -1) := fun r hr hp => by
            obtain ⟨c0, c1, -⟩ := hh r hr hp
            have key : ∀ (has : Bool) (l rest : List UInt8), q = opt has l ++ rest → l.length ≤ 65536 → (has = false → l = []) → 0 < x3.k ∧ (has = true ∧ 0 ≤ x3.n ∧ x3.n ≤ (q.length : Int) - x3.k ∨ has = false ∧ x3.n = -1) := fun has l rest e el e0 => by
              obtain ⟨d1, d2, d3⟩ := opt_gt h4.2 e el e0
              refine ⟨d1, ?_⟩
              cases has with
              | true =>
                obtain ⟨f1, f2⟩ := d2 rfl
                have := congrArg List.length f2
                rw [List.length_drop, List.length_append] at this
                exact .inl ⟨rfl, by omega, by omega⟩
              | false => exact .inr ⟨rfl, (d3 rfl).1⟩
            rcases Nat.lt_or_ge i 1 with h0 | h0
            · obtain rfl : i = 0 := by omega
              obtain ⟨-, -, -, -, e⟩ := c0 rfl
              obtain ⟨d1, d2⟩ := key _ _ _ e hr.w.k hr.w.k0
              rcases d2 with ⟨d2, d3⟩ | ⟨d2, d3⟩
              · exact ⟨d1, .inl ⟨.inl ⟨rfl, d2⟩, d3⟩⟩
              · exact ⟨d1, .inr ⟨.inl ⟨rfl, d2⟩, d3⟩⟩
            · obtain rfl : i = 1 := by omega
              obtain ⟨-, -, -, -, e⟩ := c1 rfl
              obtain ⟨d1, d2⟩ := key _ _ [] (by rw [List.append_nil]; exact e) hr.w.v hr.w.v0
              rcases d2 with ⟨d2, d3⟩ | ⟨d2, d3⟩
              · exact ⟨d1, .inl ⟨.inr ⟨rfl, d2⟩, d3⟩⟩
              · exact ⟨d1, .inr ⟨.inr ⟨rfl, d2⟩, d3⟩⟩
          have hw3 : IntKind.i64.wrap ((q.length : Int) - x3.k) = (q.length : Int) - x3.k := by have := h4.1; rw [IntKind.wrap_i64]; omega
          refine ⟨fun h5 => ?_, fun h5 => ?_⟩
          · simp only [Bool.cond_true_left, Bool.cond_false_right, Bool.or_eq_true, Bool.and_eq_true, Bool.not_eq_true', decide_eq_true_eq, beq_iff_eq, bne_iff_ne, u8s_length, Bool.not_eq_true, gt_iff_lt, ge_iff_le] at h5
            rw [hw3] at h5
            (conv => arg 4; whnf); repeat (refine ⟨rfl, ?_⟩; conv => arg 4; whnf)
            refine ⟨⟨⟨0, 0, false, [], false, []⟩, false⟩, fun r hr hp => ?_, by decide, by (repeat' (first | with_reducible exact Le.refl _ _ | exact Le.bl | exact Le.lb | exact Le.nils | exact Le.nilsFull | exact Le.none | exact LeL.nil _ | refine LeL.cons ?_ ?_ | refine Le.tup ?_ | refine Le.agg ?_ | exact Le.refl _ _ | exact LeL.refl _ _)), trivial, (by (repeat' (first | with_reducible assumption | exact ClL.nil | exact Cl.int _ _ | exact Cl.bool _ | exact Cl.bl _ | exact Cl.bs _ | exact Cl.str _ | exact Cl.nils | exact Cl.nilp | exact Cl.rec _ | exact Cl.bat _ | exact Cl.recsV _ | exact Cl.strsV _ | exact Cl.intsV _ | exact Cl.req _ | exact Cl.rsp _ | exact Cl.reqA _ | exact Cl.rspA _ | exact Cl.batsV _ | exact Cl.getB _ | exact Cl.encA _ | exact Cl.firstA _ | refine ClL.cons ?_ ?_ | refine Cl.tup ?_ | refine Cl.agg ?_ | exact ClO.RO _ _)) : Cl _) _, trivial⟩
            have := gx r hr hp
            omega
          · rw [← Bool.not_eq_true] at h5; simp only [Bool.cond_true_left, Bool.cond_false_right, Bool.or_eq_true, Bool.and_eq_true, Bool.not_eq_true', decide_eq_true_eq, beq_iff_eq, bne_iff_ne, u8s_length, gt_iff_lt, ge_iff_le] at h5
            rw [hw3] at h5
            (conv => arg 4; whnf); repeat (refine ⟨rfl, ?_⟩; conv => arg 4; whnf)
            have hk3 := h4.1
            refine ⟨by rw [u8s_length]; omega, ?_⟩
            (conv => arg 4; whnf); repeat (refine ⟨rfl, ?_⟩; conv => arg 4; whnf)
            refine ⟨fun h6 => ?_, fun h6 => ?_⟩
            · have h6 : x3.n < 0 := by simpa using h6
              (conv => arg 4; whnf); repeat (refine ⟨rfl, ?_⟩; conv => arg 4; whnf)
              have e1 : IntKind.i64.wrap ((i : Int) + 1) = ((i + 1 : Nat) : Int) := by rw [IntKind.wrap_i64]; omega
              refine ⟨⟨i + 1, q.drop x3.k, hk, key, hv, val, by omega, by simp; omega, fun r hr hp => ?_⟩, by show 2 - (i + 1) < 2 - i; omega, WkG.of rfl rfl ⟨Le.of_eq (congrArg _ e1), Le.refl _ _, Le.refl _ _, Le.refl _ _, Le.of_eq (congrArg (AV.sl .none 0) (by rw [Int.toNat_natCast, u8s_drop])), trivial⟩ ⟨⟨_, rfl, LeO.refl _ _⟩, ⟨_, rfl, LeO.refl _ _⟩, trivial⟩ ⟨rfl, rfl, rfl, rfl, (by (repeat' (first | with_reducible assumption | exact ClL.nil | exact Cl.int _ _ | exact Cl.bool _ | exact Cl.bl _ | exact Cl.bs _ | exact Cl.str _ | exact Cl.nils | exact Cl.nilp | exact Cl.rec _ | exact Cl.bat _ | exact Cl.recsV _ | exact Cl.strsV _ | exact Cl.intsV _ | exact Cl.req _ | exact Cl.rsp _ | exact Cl.reqA _ | exact Cl.rspA _ | exact Cl.batsV _ | exact Cl.getB _ | exact Cl.encA _ | exact Cl.firstA _ | refine ClL.cons ?_ ?_ | refine Cl.tup ?_ | refine Cl.agg ?_ | exact ClO.RO _ _)) : Cl _) _, trivial⟩ ⟨⟨by decide, ClO.cells (by (repeat' (first | with_reducible assumption | exact ClL.nil | exact Cl.int _ _ | exact Cl.bool _ | exact Cl.bl _ | exact Cl.bs _ | exact Cl.str _ | exact Cl.nils | exact Cl.nilp | exact Cl.rec _ | exact Cl.bat _ | exact Cl.recsV _ | exact Cl.strsV _ | exact Cl.intsV _ | exact Cl.req _ | exact Cl.rsp _ | exact Cl.reqA _ | exact Cl.rspA _ | exact Cl.batsV _ | exact Cl.getB _ | exact Cl.encA _ | exact Cl.firstA _ | refine ClL.cons ?_ ?_ | refine Cl.tup ?_ | refine Cl.agg ?_ | exact ClO.RO _ _))) _⟩, ⟨by decide, rfl⟩, trivial⟩⟩
              obtain ⟨c0, c1, -⟩ := hh r hr hp
              have g := (gx r hr hp).2
              rcases Nat.lt_or_ge i 1 with h0 | h0
              · obtain rfl : i = 0 := by omega
                obtain ⟨d1, d2, d3, d4, e⟩ := c0 rfl
                have hk0 : r.hk = false := by rcases g with ⟨-, g, -⟩ | ⟨⟨-, g⟩ | ⟨g, -⟩, -⟩ <;> first | exact g | omega
                have hd := ((opt_gt h4.2 e hr.w.k hr.w.k0).2.2 hk0).2
                exact ⟨fun h => absurd h (by decide), fun _ => ⟨by rw [d1, hk0], by rw [d2, hr.w.k0 hk0], d3, d4, hd⟩, fun h => absurd h (by decide)⟩
              · obtain rfl : i = 1 := by omega
                obtain ⟨d1, d2, d3, d4, e⟩ := c1 rfl
                have hv0 : r.hv = false := by rcases g with ⟨-, g, -⟩ | ⟨⟨g, -⟩ | ⟨-, g⟩, -⟩ <;> first | exact g | omega
                have hd := ((opt_gt h4.2 (by rw [List.append_nil]; exact e : q = _ ++ []) hr.w.v hr.w.v0).2.2 hv0).2
                exact ⟨fun h => absurd h (by decide), fun h => absurd h (by decide), fun _ => ⟨d1, d2, by rw [d3, hv0], by rw [d4, hr.w.v0 hv0], hd⟩⟩
            · have h6 : ¬ x3.n < 0 := by simpa using h6
              (conv => arg 4; whnf); repeat (refine ⟨rfl, ?_⟩; conv => arg 4; whnf)
              refine ⟨fun h7 => ?_, fun h7 => ?_⟩
              · have h7 : i = 0 := by simp at h7; omega
                subst h7
                (conv => arg 4; whnf); repeat (refine ⟨rfl, ?_⟩; conv => arg 4; whnf)
                refine ⟨by rw [List.length_drop, u8s_length, Int.toNat_natCast]; omega, ?_⟩
                (conv => arg 4; whnf); repeat (refine ⟨rfl, ?_⟩; conv => arg 4; whnf)
                refine ⟨sizeOk 1 rfl ?_, ?_⟩
                · rw [List.nil_append, List.length_take, List.length_drop, u8s_length]; omega
                refine Or.inl ?_
                (conv => arg 4; whnf); repeat (refine ⟨rfl, ?_⟩; conv => arg 4; whnf)
                refine ⟨by rw [List.length_drop, u8s_length, Int.toNat_natCast]; omega, ?_⟩
                (conv => arg 4; whnf); repeat (refine ⟨rfl, ?_⟩; conv => arg 4; whnf)
                have eb : [] ++ List.take x3.n.toNat (List.drop ((x3.k : Nat) : Int).toNat (u8s q)) = u8s ((q.drop x3.k).take x3.n.toNat) := by rw [List.nil_append, Int.toNat_natCast, u8s_drop, u8s_take]
                have er : AV.sl .none 0 (List.drop x3.n.toNat (List.drop ((x3.k : Nat) : Int).toNat (u8s q))) = bs ((q.drop x3.k).drop x3.n.toNat) := congrArg (AV.sl .none 0) (by rw [Int.toNat_natCast, u8s_drop, u8s_drop])
                refine ⟨⟨1, (q.drop x3.k).drop x3.n.toNat, true, (q.drop x3.k).take x3.n.toNat, hv, val, by omega, by simp; omega, fun r hr hp => ?_⟩, by show 2 - 1 < 2 - 0; omega, WkG.of rfl rfl ⟨Le.refl _ _, Le.refl _ _, Le.refl _ _, Le.refl _ _, Le.of_eq er, trivial⟩ ⟨⟨_, rfl, LeL.cons (Le.refl _ _) (LeL.cons (Le.refl _ _) (LeL.cons Le.bl (LeL.cons (Le.noneOf eb) (LeL.refl _ _))))⟩, ⟨_, rfl, LeO.refl _ _⟩, trivial⟩ ⟨rfl, rfl, rfl, rfl, (by (repeat' (first | with_reducible assumption | exact ClL.nil | exact Cl.int _ _ | exact Cl.bool _ | exact Cl.bl _ | exact Cl.bs _ | exact Cl.str _ | exact Cl.nils | exact Cl.nilp | exact Cl.rec _ | exact Cl.bat _ | exact Cl.recsV _ | exact Cl.strsV _ | exact Cl.intsV _ | exact Cl.req _ | exact Cl.rsp _ | exact Cl.reqA _ | exact Cl.rspA _ | exact Cl.batsV _ | exact Cl.getB _ | exact Cl.encA _ | exact Cl.firstA _ | refine ClL.cons ?_ ?_ | refine Cl.tup ?_ | refine Cl.agg ?_ | exact ClO.RO _ _)) : Cl _) _, trivial⟩ ⟨⟨by decide, ClO.cells (by (repeat' (first | with_reducible assumption | exact ClL.nil | exact Cl.int _ _ | exact Cl.bool _ | exact Cl.bl _ | exact Cl.bs _ | exact Cl.str _ | exact Cl.nils | exact Cl.nilp | exact Cl.rec _ | exact Cl.bat _ | exact Cl.recsV _ | exact Cl.strsV _ | exact Cl.intsV _ | exact Cl.req _ | exact Cl.rsp _ | exact Cl.reqA _ | exact Cl.rspA _ | exact Cl.batsV _ | exact Cl.getB _ | exact Cl.encA _ | exact Cl.firstA _ | refine ClL.cons ?_ ?_ | refine Cl.tup ?_ | refine Cl.agg ?_ | exact ClO.RO _ _))) _⟩, ⟨by decide, rfl⟩, trivial⟩⟩
                obtain ⟨c0, c1, -⟩ := hh r hr hp
                have g := (gx r hr hp).2
                obtain ⟨d1, d2, d3, d4, e⟩ := c0 rfl
                have hk0 : r.hk = true := by rcases g with ⟨⟨-, g⟩ | ⟨g, -⟩, -⟩ | ⟨-, g⟩ <;> first | exact g | omega
                obtain ⟨n1, hd⟩ := (opt_gt h4.2 e hr.w.k hr.w.k0).2.1 hk0
                rw [hd, n1, Int.toNat_natCast, List.take_left, List.drop_left]
                exact ⟨fun h => absurd h (by decide), fun _ => ⟨hk0.symm, rfl, d3, d4, rfl⟩, fun h => absurd h (by decide)⟩
              · have h7 : i = 1 := by simp at h7; omega
                subst h7
                (conv => arg 4; whnf); repeat (refine ⟨rfl, ?_⟩; conv => arg 4; whnf)
                refine ⟨by rw [List.length_drop, u8s_length, Int.toNat_natCast]; omega, ?_⟩
                (conv => arg 4; whnf); repeat (refine ⟨rfl, ?_⟩; conv => arg 4; whnf)
                refine ⟨sizeOk 1 rfl ?_, ?_⟩
                · rw [List.nil_append, List.length_take, List.length_drop, u8s_length]; omega
                refine Or.inl ?_
                (conv => arg 4; whnf); repeat (refine ⟨rfl, ?_⟩; conv => arg 4; whnf)
                refine ⟨by rw [List.length_drop, u8s_length, Int.toNat_natCast]; omega, ?_⟩
                (conv => arg 4; whnf); repeat (refine ⟨rfl, ?_⟩; conv => arg 4; whnf)
                have eb : [] ++ List.take x3.n.toNat (List.drop ((x3.k : Nat) : Int).toNat (u8s q)) = u8s ((q.drop x3.k).take x3.n.toNat) := by rw [List.nil_append, Int.toNat_natCast, u8s_drop, u8s_take]
                have er : AV.sl .none 0 (List.drop x3.n.toNat (List.drop ((x3.k : Nat) : Int).toNat (u8s q))) = bs ((q.drop x3.k).drop x3.n.toNat) := congrArg (AV.sl .none 0) (by rw [Int.toNat_natCast, u8s_drop, u8s_drop])
                refine ⟨⟨2, (q.drop x3.k).drop x3.n.toNat, hk, key, true, (q.drop x3.k).take x3.n.toNat, by omega, by simp; omega, fun r hr hp => ?_⟩, by show 2 - 2 < 2 - 1; omega, WkG.of rfl rfl ⟨Le.refl _ _, Le.refl _ _, Le.refl _ _, Le.refl _ _, Le.of_eq er, trivial⟩ ⟨⟨_, rfl, LeL.cons (Le.refl _ _) (LeL.cons (Le.refl _ _) (LeL.cons (Le.refl _ _) (LeL.cons (Le.refl _ _) (LeL.cons Le.bl (LeL.cons (Le.noneOf eb) (LeL.refl _ _))))))⟩, ⟨_, rfl, LeO.refl _ _⟩, trivial⟩ ⟨rfl, rfl, rfl, rfl, (by (repeat' (first | with_reducible assumption | exact ClL.nil | exact Cl.int _ _ | exact Cl.bool _ | exact Cl.bl _ | exact Cl.bs _ | exact Cl.str _ | exact Cl.nils | exact Cl.nilp | exact Cl.rec _ | exact Cl.bat _ | exact Cl.recsV _ | exact Cl.strsV _ | exact Cl.intsV _ | exact Cl.req _ | exact Cl.rsp _ | exact Cl.reqA _ | exact Cl.rspA _ | exact Cl.batsV _ | exact Cl.getB _ | exact Cl.encA _ | exact Cl.firstA _ | refine ClL.cons ?_ ?_ | refine Cl.tup ?_ | refine Cl.agg ?_ | exact ClO.RO _ _)) : Cl _) _, trivial⟩ ⟨⟨by decide, ClO.cells (by (repeat' (first | with_reducible assumption | exact ClL.nil | exact Cl.int _ _ | exact Cl.bool _ | exact Cl.bl _ | exact Cl.bs _ | exact Cl.str _ | exact Cl.nils | exact Cl.nilp | exact Cl.rec _ | exact Cl.bat _ | exact Cl.recsV _ | exact Cl.strsV _ | exact Cl.intsV _ | exact Cl.req _ | exact Cl.rsp _ | exact Cl.reqA _ | exact Cl.rspA _ | exact Cl.batsV _ | exact Cl.getB _ | exact Cl.encA _ | exact Cl.firstA _ | refine ClL.cons ?_ ?_ | refine Cl.tup ?_ | refine Cl.agg ?_ | exact ClO.RO _ _))) _⟩, ⟨by decide, rfl⟩, trivial⟩⟩
                obtain ⟨c0, c1, -⟩ := hh r hr hp
                have g := (gx r hr hp).2
                obtain ⟨d1, d2, d3, d4, e⟩ := c1 rfl
                have hv0 : r.hv = true := by rcases g with ⟨⟨g, -⟩ | ⟨-, g⟩, -⟩ | ⟨-, g⟩ <;> first | exact g | omega
                obtain ⟨n1, hd⟩ := (opt_gt h4.2 (by rw [List.append_nil]; exact e : q = _ ++ []) hr.w.v hr.w.v0).2.1 hv0
                rw [hd, n1, Int.toNat_natCast, List.take_left, List.drop_left]
                exact ⟨fun h => absurd h (by decide), fun h => absurd h (by decide), fun _ => ⟨d1, d2, hv0.symm, rfl, rfl⟩⟩
        · have hlt : ¬ i < 2 := by simp at hlt; omega
          obtain rfl : i = 2 := by omega
          conv => arg 4; whnf
          refine fin_exit ?_
          show holds _ _ _ _
          conv => arg 4; whnf
          refine ⟨⟨⟨_, _, hk, key, hv, val⟩, ((u8s q).length : Int) == 0⟩, fun r hr hp => ?_, by decide, by (repeat' (first | with_reducible exact Le.refl _ _ | exact Le.bl | exact Le.lb | exact Le.nils | exact Le.nilsFull | exact Le.none | exact LeL.nil _ | refine LeL.cons ?_ ?_ | refine Le.tup ?_ | refine Le.agg ?_ | exact Le.refl _ _ | exact LeL.refl _ _)), trivial, (by (repeat' (first | with_reducible assumption | exact ClL.nil | exact Cl.int _ _ | exact Cl.bool _ | exact Cl.bl _ | exact Cl.bs _ | exact Cl.str _ | exact Cl.nils | exact Cl.nilp | exact Cl.rec _ | exact Cl.bat _ | exact Cl.recsV _ | exact Cl.strsV _ | exact Cl.intsV _ | exact Cl.req _ | exact Cl.rsp _ | exact Cl.reqA _ | exact Cl.rspA _ | exact Cl.batsV _ | exact Cl.getB _ | exact Cl.encA _ | exact Cl.firstA _ | refine ClL.cons ?_ ?_ | refine Cl.tup ?_ | refine Cl.agg ?_ | exact ClO.RO _ _)) : Cl _) _, trivial⟩
          obtain ⟨-, -, c2⟩ := hh r hr hp
          obtain ⟨d1, d2, d3, d4, e⟩ := c2 rfl
          have e1 := g1 r hr hp
          have e2 := g2 r hr hp
          have ht := hr.w.t'
          have ho := hr.w.o'
          unfold I64 at ht ho
          have a1 : IntKind.i64.wrap (base + x2.n) = r.off := by rw [e2.1, IntKind.wrap_i64]; omega
          have a2 : IntKind.i64.wrap (first + x1.n) = r.time := by rw [e1.1, IntKind.wrap_i64]; omega
          refine ⟨by rw [e]; rfl, ?_⟩
          simp only [a1, a2, d1, d2, d3, d4]
end Go.Proofs.Ythclmkhkchbpiaa
