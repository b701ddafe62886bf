/-
  The law WireReads, over the model.
-/
import Derived.Test.YtlpbniachlamgaaTxt1
set_option linter.unusedVariables false
set_option linter.unusedSimpArgs false
namespace Go.Proofs.Ytlpbniachlamgaa
set_option maxRecDepth 100000
set_option maxHeartbeats 80000000
open Go.Sym

theorem noneErr : CallOK Try.prog 23 [.nilp] [] 0 (Out (.int .i64 2) [] 0) := by
  refine callOK Try.call23 Try.func23 Try.ntmps23 rfl ?_
  conv => arg 4; whnf
  exact ⟨rfl, rfl, rfl⟩
theorem noneRNum : CallOK Try.prog 18 [.nilp] [] 0 (Out (.int .i64 0) [] 0) := by
  refine callOK Try.call18 Try.func18 Try.ntmps18 rfl ?_
  conv => arg 4; whnf
  refine holds_out [] noneErr rfl trivial rfl ?_
  conv => arg 4; whnf
  refine ⟨fun _ => ?_, fun h => absurd h (by first | (simp; done) | (simp [u8s]; done))⟩
  conv => arg 4; whnf
  exact ⟨rfl, rfl, rfl⟩
theorem noneLeft : CallOK Try.prog 22 [.nilp] [] 0 (Out (.int .i64 0) [] 0) := by
  refine callOK Try.call22 Try.func22 Try.ntmps22 rfl ?_
  conv => arg 4; whnf
  refine holds_out [] noneErr rfl trivial rfl ?_
  conv => arg 4; whnf
  refine ⟨fun _ => ?_, fun h => absurd h (by first | (simp; done) | (simp [u8s]; done))⟩
  conv => arg 4; whnf
  exact ⟨rfl, rfl, rfl⟩
theorem noneBytes : CallOK Try.prog 20 [.nilp, .int .i64 5] [] 0 (Out .nils [] 0) := by
  refine callOK Try.call20 Try.func20 Try.ntmps20 rfl ?_
  conv => arg 4; whnf
  refine holds_out [] noneErr rfl trivial rfl ?_
  conv => arg 4; whnf
  refine ⟨fun _ => ?_, fun h => absurd h (by first | (simp; done) | (simp [u8s]; done))⟩
  conv => arg 4; whnf
  exact ⟨rfl, rfl, rfl⟩

theorem cut_ints {n nx : Nat} {l : List Int} : ren (cut n nx) (.sl .none 0 (ints l)) = .sl .none 0 (ints l) := by
  show AV.sl .none 0 (renL _ (ints l)) = _
  rw [ren_ints]

theorem unfixed_eq (l : List UInt8) : ∀ n, unfixed n l = n * 256 ^ l.length + unfixed 0 l := by
  induction l with
  | nil => intro n; simp [unfixed]
  | cons c r ih =>
    intro n
    simp only [unfixed, List.length_cons]
    rw [ih (n * 256 + c.toNat), ih (0 * 256 + c.toNat), Nat.pow_succ, Nat.add_mul, Nat.mul_assoc, Nat.mul_comm 256, Nat.zero_mul, Nat.zero_add]
    omega

theorem unfixed_lt (l : List UInt8) : unfixed 0 l < 256 ^ l.length := by
  induction l with
  | nil => simp [unfixed]
  | cons c r ih =>
    have hc := c.toNat_lt
    simp only [unfixed, List.length_cons]
    rw [unfixed_eq r, Nat.pow_succ, Nat.zero_mul, Nat.zero_add, Nat.mul_comm (256 ^ r.length)]
    have : (c.toNat + 1) * 256 ^ r.length ≤ 256 * 256 ^ r.length := Nat.mul_le_mul_right _ (by omega)
    rw [Nat.add_mul] at this
    omega

theorem unfixed_lt63 {l : List UInt8} (hl : l.length ≤ 8) (h8 : l.length = 8 → (l.headD 0).toNat ≤ 127) : unfixed 0 l < 9223372036854775808 := by
  by_cases h : l.length = 8
  · cases l with
    | nil => simp at h
    | cons c r =>
      have hc := h8 h
      simp only [List.headD_cons] at hc
      have hr : r.length = 7 := by simpa using h
      simp only [unfixed]
      rw [unfixed_eq r, hr, Nat.zero_mul, Nat.zero_add]
      have := unfixed_lt r
      rw [hr] at this
      have e : (256 : Nat) ^ 7 = 72057594037927936 := by decide
      rw [e] at this ⊢
      omega
  · have := unfixed_lt l
    have h1 : 256 ^ l.length ≤ 256 ^ 7 := Nat.pow_le_pow_right (by omega) (by omega)
    have e : (256 : Nat) ^ 7 = 72057594037927936 := by decide
    omega

structure RdI (ks : List Int) where
  i : Nat
  l : List UInt8
  e : Int
  hi : i ≤ ks.length
  hl : l.length ≤ 300

theorem reads {b : List UInt8} {ks : List Int} {most : Int} (hk : ∀ x ∈ ks, I64 x) (hm : I64 most) : CallOK Try.prog 4 [.sl .none 0 (u8s b), .sl .none 0 (ints ks), .int .i64 most] [] 0 (fun a _ _ => a = .bool true ∨ a = .bl true) := by
  refine callOK Try.call4 Try.func4 Try.ntmps4 rfl ?_
  conv => arg 4; whnf
  refine ⟨fun h => ?_, fun h => ?_⟩
  · conv => arg 4; whnf
    refine holds_out [] awake rfl trivial rfl ?_
    conv => arg 4; whnf
    exact .inl rfl
  · have h : b.length ≤ 300 ∧ ks.length ≤ 60 ∧ 0 ≤ most ∧ most ≤ 1048576 := by
      by_cases q1 : (300 : Int) < b.length
      · simp [u8s_length, q1] at h
      by_cases q2 : (60 : Int) < ks.length
      · simp [ints, q2] at h
      by_cases q3 : most < 0
      · simp [q3] at h
      simp [u8s_length, ints, q1, q2, q3] at h
      omega
    conv => arg 4; whnf
    refine holds_out [] (newReader (b := b) (by omega)) rfl trivial (by (try simp only [renO, renL, renL_u8s, ren, u8s_length]) <;> rfl) ?_
    simp only [renL_u8s]
    conv => arg 4; whnf
    simp only [renL_u8s]
    refine tri_loopG (ι := RdI ks) (fun a => ⟨[(10, .int .i64 a.i), (9, .int .i64 a.e), (8, .sl .none 0 (u8s a.l)), (7, .ptr 0 0), (1, .sl .none 0 (ints ks)), (2, .int .i64 most)], RH a.l a.e, 1, 203⟩) (fun a => ks.length - a.i) ⟨0, b, 0, Nat.zero_le _, h.1⟩ ?_ ?_
    · exact WkG.of rfl rfl ⟨Le.refl _ _, Le.refl _ _, Le.refl _ _, Le.refl _ _, Le.refl _ _, Le.refl _ _, trivial⟩ ⟨⟨_, rfl, LeO.refl _ _⟩, trivial⟩ ⟨rfl, rfl, cut_ok rfl, rfl, cut_ints, rfl, trivial⟩ ⟨⟨by decide, by rw [ren_RH']⟩, trivial⟩
    · rintro ⟨ai, al, ae, hai, hal⟩
      dsimp only
      conv => arg 4; whnf
      refine ⟨fun h1 => ?_, fun h1 => ?_⟩
      · have hi : ai < ks.length := by simp [ints] at h1; omega
        have hg : (ints ks)[((ai : Nat) : Int).toNat]? = some (.int .i64 ks[ai]) := by simp [ints, hi]
        have hki := hk _ (List.getElem_mem hi)
        conv => arg 4; whnf
        refine ⟨_, ⟨by omega, hg⟩, ?_⟩
        conv => arg 4; whnf
        obtain ⟨c, hc1, -, hc2⟩ := round hki (n := 11) (by omega)
        refine holds_out [] hc2 rfl trivial rfl ?_
        conv => arg 4; whnf
        refine ⟨fun h2 => ?_, fun h2 => ?_⟩
        · have h2 : c < 8 := by simp at h2; omega
          have hw1 : IntKind.i64.wrap ((c : Int) + 1) = ((c + 1 : Nat) : Int) := by rw [IntKind.wrap_i64]; omega
          conv => arg 4; whnf
          rw [hw1]
          refine ⟨u8 (al.headD 0), ?_, ?_⟩
          · conv => whnf
            intro z1
            conv => whnf
            intro z2
            conv => whnf
            intro z3
            show (0 : Int) ≤ 0 ∧ (u8s al)[0]? = some (u8 (al.headD 0))
            simp [u8s_length] at z2
            cases hall : al with
            | nil => rw [hall] at z2; simp at z2; omega
            | cons x r => exact ⟨by omega, rfl⟩
          conv => arg 4; whnf
          have cf := rFixed (b := al) (e := ae) (size := ((c + 1 : Nat) : Int)) (by unfold I64; omega) (by omega)
          refine ⟨fun q => ?_, fun q => ?_⟩
          · have q : ae = 0 ∧ (al.length < c + 1 ∨ c + 1 = 8 ∧ (al.headD 0).toNat > 127) := by
              by_cases he : ae = 0
              · refine ⟨he, ?_⟩
                generalize (al.headD 0).toNat = hd at q ⊢
                by_cases hlt : al.length < c + 1
                · exact .inl hlt
                · simp [he, u8s_length, show ¬ ((al.length : Int) < (c : Int) + 1) by omega] at q
                  omega
              · simp [he] at q
            have hr : fixedR al ae ((c + 1 : Nat) : Int) = (0, al, 2) := by
              simp only [fixedR]
              rw [if_neg (by simp [q.1]), if_pos (by omega)]
            rw [hr] at cf
            conv => arg 4; whnf
            refine ⟨fun h => absurd h (by first | (simp; done) | (simp [u8s]; done)), fun _ => ?_⟩
            conv => arg 4; whnf
            refine holds_out [0] cf rfl ⟨⟨by decide, by rw [ren_RH']; rfl⟩, trivial⟩ rfl ?_
            conv => arg 4; whnf
            simp only [renL_u8s]
            refine ⟨fun h => absurd h (by first | (simp; done) | (simp [u8s]; done)), fun _ => ?_⟩
            conv => arg 4; whnf
            refine ⟨fun _ => ?_, fun h => absurd h (by simp)⟩
            conv => arg 4; whnf
            refine holds_out [0] (rLeft (b := al) (e := 2)) rfl ⟨⟨by decide, by rw [ren_RH']; rfl⟩, trivial⟩ rfl ?_
            conv => arg 4; whnf
            simp only [renL_u8s]
            rw [if_neg (by simp)]
            refine ⟨fun h => absurd h (by first | (simp; done) | (simp [u8s]; done)), fun _ => ?_⟩
            conv => arg 4; whnf
            refine holds_out [0] (rErr (b := al) (e := 2)) rfl ⟨⟨by decide, by rw [ren_RH']; rfl⟩, trivial⟩ rfl ?_
            conv => arg 4; whnf
            simp only [renL_u8s]
            refine ⟨fun h => absurd h (by first | (simp; done) | (simp [u8s]; done)), fun _ => ?_⟩
            conv => arg 4; whnf
            refine ⟨fun h => absurd h (by simp), fun _ => ?_⟩
            conv => arg 4; whnf
            refine ⟨⟨ai + 1, al, 2, hi, by first | omega | (simp; omega)⟩, by show ks.length - (ai + 1) < ks.length - ai; omega, WkG.of rfl rfl ⟨Le.of_eq (succ_int (by omega)), Le.refl _ _, Le.refl _ _, Le.refl _ _, Le.refl _ _, Le.refl _ _, trivial⟩ ⟨⟨_, rfl, LeO.refl _ _⟩, trivial⟩ ⟨rfl, rfl, cut_ok rfl, rfl, cut_ints, rfl, trivial⟩ ⟨⟨by decide, by rw [ren_RH']⟩, trivial⟩⟩
          · have q : ¬ (ae = 0 ∧ (al.length < c + 1 ∨ c + 1 = 8 ∧ (al.headD 0).toNat > 127)) := by
              rintro ⟨he, hq⟩
              generalize (al.headD 0).toNat = hd at q hq
              by_cases hlt : al.length < c + 1
              · simp [he, u8s_length, show ((al.length : Int) < (c : Int) + 1) by omega] at q
              · simp [he, u8s_length, show ¬ ((al.length : Int) < (c : Int) + 1) by omega] at q
                omega
            by_cases he : ae = 0
            · have hr : fixedR al ae ((c + 1 : Nat) : Int) = (((unfixed 0 (al.take (c + 1)) : Nat) : Int), al.drop (c + 1), 0) := by
                simp only [fixedR]
                rw [if_neg (by simp [he]), if_neg (by omega), Int.toNat_natCast]
              rw [hr] at cf
              subst he
              conv => arg 4; whnf
              refine ⟨fun _ => ?_, fun h => absurd h (by simp)⟩
              conv => arg 4; whnf
              refine ⟨by rw [u8s_length]; omega, ?_⟩
              simp only [Int.toNat_natCast, u8s_take]
              conv => arg 4; whnf
              refine holds_out [] (refGetFixed (b := al.take (c + 1)) (by simp; omega)) rfl trivial (by (try simp only [renO, renL, renL_u8s, ren, u8s_length]) <;> rfl) ?_
              conv => arg 4; whnf
              refine ⟨by rw [u8s_length]; omega, ?_⟩
              simp only [Int.toNat_natCast, u8s_drop]
              conv => arg 4; whnf
              refine holds_out [0] cf rfl ⟨⟨by decide, by rw [ren_RH']; rfl⟩, trivial⟩ rfl ?_
              conv => arg 4; whnf
              simp only [renL_u8s]
              have hu := unfixed_lt63 (l := al.take (c + 1)) (by simp; omega) (fun h8 => by
                have : (al.take (c + 1)).headD 0 = al.headD 0 := by
                  cases al with
                  | nil => simp
                  | cons x r => rfl
                rw [this]
                rw [List.length_take] at h8
                omega)
              have hw2 : IntKind.i64.wrap ((unfixed 0 (al.take (c + 1)) : Nat) : Int) = ((unfixed 0 (al.take (c + 1)) : Nat) : Int) := by rw [IntKind.wrap_i64]; omega
              rw [hw2]
              refine ⟨fun h => absurd h (by simp), fun _ => ?_⟩
              conv => arg 4; whnf
              have hlen : ((al.drop (c + 1))).length ≤ 300 := by first | omega | (simp; omega)
              refine ⟨fun h => absurd h (by simp), fun _ => ?_⟩
              conv => arg 4; whnf
              refine holds_out [0] (rLeft (b := (al.drop (c + 1))) (e := 0)) rfl ⟨⟨by decide, by rw [ren_RH']; rfl⟩, trivial⟩ rfl ?_
              conv => arg 4; whnf
              simp only [renL_u8s]
              rw [if_pos (by simp)]
              refine ⟨fun h => absurd h (by simp [u8s_length]), fun _ => ?_⟩
              conv => arg 4; whnf
              refine holds_out [0] (rErr (b := (al.drop (c + 1))) (e := 0)) rfl ⟨⟨by decide, by rw [ren_RH']; rfl⟩, trivial⟩ rfl ?_
              conv => arg 4; whnf
              simp only [renL_u8s]
              refine ⟨fun h => absurd h (by first | (simp; done) | (simp [u8s]; done)), fun _ => ?_⟩
              conv => arg 4; whnf
              refine ⟨fun _ => ?_, fun h => absurd h (by first | (simp; done) | (simp [u8s]; done))⟩
              conv => arg 4; whnf
              refine ⟨(al.drop (c + 1)), rfl, ?_⟩
              conv => arg 4; whnf
              refine holds_out [0] (rRest (b := (al.drop (c + 1))) (e := 0)) rfl ⟨⟨by decide, by rw [ren_RH']; rfl⟩, trivial⟩ rfl ?_
              conv => arg 4; whnf
              simp only [renL_u8s]
              refine holds_out [0, 1] (rest (b := (al.drop (c + 1))) (most := 1000) (by omega)) rfl ⟨⟨by decide, rfl⟩, ⟨by decide, by rw [ren_RH']; rfl⟩, trivial⟩ rfl ?_
              conv => arg 4; whnf
              simp only [renL_u8s]
              refine ⟨(al.drop (c + 1)).take 1000, rfl, ?_⟩
              conv => arg 4; whnf
              rw [List.take_of_length_le (by omega)]
              refine ⟨fun h => absurd h (by first | (simp; done) | (simp [u8s]; done)), fun _ => ?_⟩
              conv => arg 4; whnf
              refine holds_out [0] (rRest (b := (al.drop (c + 1))) (e := 0)) rfl ⟨⟨by decide, by rw [ren_RH']; rfl⟩, trivial⟩ rfl ?_
              conv => arg 4; whnf
              simp only [renL_u8s]
              refine holds_out [0, 2] (rest (b := (al.drop (c + 1))) (most := 2) (by omega)) rfl ⟨⟨by decide, rfl⟩, ⟨by decide, by rw [ren_RH']; rfl⟩, trivial⟩ rfl ?_
              conv => arg 4; whnf
              simp only [renL_u8s]
              have hmin : ((u8s ((al.drop (c + 1)).take 2)).length : Int) = if ((u8s (al.drop (c + 1))).length : Int) < 2 then ((u8s (al.drop (c + 1))).length : Int) else 2 := by
                simp only [u8s_length, List.length_take]
                split <;> omega
              rw [hmin]
              refine ⟨fun h => absurd h (by first | (simp; done) | (simp [u8s]; done)), fun _ => ?_⟩
              conv => arg 4; whnf
              refine ⟨⟨ai + 1, (al.drop (c + 1)), 0, hi, by first | omega | (simp; omega)⟩, by show ks.length - (ai + 1) < ks.length - ai; omega, WkG.of rfl rfl ⟨Le.of_eq (succ_int (by omega)), Le.refl _ _, Le.refl _ _, Le.refl _ _, Le.refl _ _, Le.refl _ _, trivial⟩ ⟨⟨_, rfl, LeO.refl _ _⟩, trivial⟩ ⟨rfl, rfl, cut_ok rfl, rfl, cut_ints, rfl, trivial⟩ ⟨⟨by decide, by rw [ren_RH']⟩, trivial⟩⟩
            · have hr : fixedR al ae ((c + 1 : Nat) : Int) = (0, al, ae) := by
                simp only [fixedR]
                rw [if_pos he]
              rw [hr] at cf
              conv => arg 4; whnf
              refine ⟨fun h => absurd h (by simp [he]), fun _ => ?_⟩
              conv => arg 4; whnf
              refine holds_out [0] cf rfl ⟨⟨by decide, by rw [ren_RH']; rfl⟩, trivial⟩ rfl ?_
              conv => arg 4; whnf
              simp only [renL_u8s]
              refine ⟨fun h => absurd h (by first | (simp; done) | (simp [u8s]; done)), fun _ => ?_⟩
              conv => arg 4; whnf
              refine ⟨fun _ => ?_, fun h => absurd h (by simp [he])⟩
              conv => arg 4; whnf
              refine holds_out [0] (rLeft (b := al) (e := ae)) rfl ⟨⟨by decide, by rw [ren_RH']; rfl⟩, trivial⟩ rfl ?_
              conv => arg 4; whnf
              simp only [renL_u8s]
              rw [if_neg (by simp [he])]
              refine ⟨fun h => absurd h (by first | (simp; done) | (simp [u8s]; done)), fun _ => ?_⟩
              conv => arg 4; whnf
              refine holds_out [0] (rErr (b := al) (e := ae)) rfl ⟨⟨by decide, by rw [ren_RH']; rfl⟩, trivial⟩ rfl ?_
              conv => arg 4; whnf
              simp only [renL_u8s]
              refine ⟨fun h => absurd h (by first | (simp; done) | (simp [u8s]; done)), fun _ => ?_⟩
              conv => arg 4; whnf
              refine ⟨fun h => absurd h (by simp [he]), fun _ => ?_⟩
              conv => arg 4; whnf
              refine ⟨⟨ai + 1, al, ae, hi, by first | omega | (simp; omega)⟩, by show ks.length - (ai + 1) < ks.length - ai; omega, WkG.of rfl rfl ⟨Le.of_eq (succ_int (by omega)), Le.refl _ _, Le.refl _ _, Le.refl _ _, Le.refl _ _, Le.refl _ _, trivial⟩ ⟨⟨_, rfl, LeO.refl _ _⟩, trivial⟩ ⟨rfl, rfl, cut_ok rfl, rfl, cut_ints, rfl, trivial⟩ ⟨⟨by decide, by rw [ren_RH']⟩, trivial⟩⟩
        · have h2 : ¬ c < 8 := by simp at h2; omega
          conv => arg 4; whnf
          refine ⟨fun h3 => ?_, fun h3 => ?_⟩
          · have h3 : c = 8 := by simp at h3; omega
            have cn := rNum (b := al) (e := ae) (by omega)
            have cg := refGet (b := al) (by omega)
            unfold getB at cg
            conv => arg 4; whnf
            cases hget : getL 0 0 al with
            | none =>
              rw [hget] at cg
              refine holds_out [] cg rfl trivial (by (try simp only [renO, renL, renL_u8s, ren, u8s_length]) <;> rfl) ?_
              conv => arg 4; whnf
              by_cases he : ae = 0
              · subst he
                rw [show numR al 0 = (0, al, 2) from by simp [numR, hget]] at cn
                refine ⟨fun _ => ?_, fun h => absurd h (by simp)⟩
                conv => arg 4; whnf
                refine ⟨fun h => absurd h (by simp), fun _ => ?_⟩
                conv => arg 4; whnf
                refine holds_out [0] cn rfl ⟨⟨by decide, by rw [ren_RH']; rfl⟩, trivial⟩ rfl ?_
                conv => arg 4; whnf
                simp only [renL_u8s]
                refine ⟨fun h => absurd h (by first | (simp; done) | (simp [u8s]; done)), fun _ => ?_⟩
                conv => arg 4; whnf
                refine ⟨fun _ => ?_, fun h => absurd h (by simp)⟩
                conv => arg 4; whnf
                refine holds_out [0] (rLeft (b := al) (e := 2)) rfl ⟨⟨by decide, by rw [ren_RH']; rfl⟩, trivial⟩ rfl ?_
                conv => arg 4; whnf
                simp only [renL_u8s]
                rw [if_neg (by simp)]
                refine ⟨fun h => absurd h (by first | (simp; done) | (simp [u8s]; done)), fun _ => ?_⟩
                conv => arg 4; whnf
                refine holds_out [0] (rErr (b := al) (e := 2)) rfl ⟨⟨by decide, by rw [ren_RH']; rfl⟩, trivial⟩ rfl ?_
                conv => arg 4; whnf
                simp only [renL_u8s]
                refine ⟨fun h => absurd h (by first | (simp; done) | (simp [u8s]; done)), fun _ => ?_⟩
                conv => arg 4; whnf
                refine ⟨fun h => absurd h (by simp), fun _ => ?_⟩
                conv => arg 4; whnf
                refine ⟨⟨ai + 1, al, 2, hi, by first | omega | (simp; omega)⟩, by show ks.length - (ai + 1) < ks.length - ai; omega, WkG.of rfl rfl ⟨Le.of_eq (succ_int (by omega)), Le.refl _ _, Le.refl _ _, Le.refl _ _, Le.refl _ _, Le.refl _ _, trivial⟩ ⟨⟨_, rfl, LeO.refl _ _⟩, trivial⟩ ⟨rfl, rfl, cut_ok rfl, rfl, cut_ints, rfl, trivial⟩ ⟨⟨by decide, by rw [ren_RH']⟩, trivial⟩⟩
              · rw [show numR al ae = (0, al, ae) from by simp [numR, he]] at cn
                refine ⟨fun h => absurd h (by simp [he]), fun _ => ?_⟩
                conv => arg 4; whnf
                refine ⟨fun h => absurd h (by simp [he]), fun _ => ?_⟩
                conv => arg 4; whnf
                refine holds_out [0] cn rfl ⟨⟨by decide, by rw [ren_RH']; rfl⟩, trivial⟩ rfl ?_
                conv => arg 4; whnf
                simp only [renL_u8s]
                refine ⟨fun h => absurd h (by first | (simp; done) | (simp [u8s]; done)), fun _ => ?_⟩
                conv => arg 4; whnf
                refine ⟨fun _ => ?_, fun h => absurd h (by simp [he])⟩
                conv => arg 4; whnf
                refine holds_out [0] (rLeft (b := al) (e := ae)) rfl ⟨⟨by decide, by rw [ren_RH']; rfl⟩, trivial⟩ rfl ?_
                conv => arg 4; whnf
                simp only [renL_u8s]
                rw [if_neg (by simp [he])]
                refine ⟨fun h => absurd h (by first | (simp; done) | (simp [u8s]; done)), fun _ => ?_⟩
                conv => arg 4; whnf
                refine holds_out [0] (rErr (b := al) (e := ae)) rfl ⟨⟨by decide, by rw [ren_RH']; rfl⟩, trivial⟩ rfl ?_
                conv => arg 4; whnf
                simp only [renL_u8s]
                refine ⟨fun h => absurd h (by first | (simp; done) | (simp [u8s]; done)), fun _ => ?_⟩
                conv => arg 4; whnf
                refine ⟨fun h => absurd h (by simp [he]), fun _ => ?_⟩
                conv => arg 4; whnf
                refine ⟨⟨ai + 1, al, ae, hi, by first | omega | (simp; omega)⟩, by show ks.length - (ai + 1) < ks.length - ai; omega, WkG.of rfl rfl ⟨Le.of_eq (succ_int (by omega)), Le.refl _ _, Le.refl _ _, Le.refl _ _, Le.refl _ _, Le.refl _ _, trivial⟩ ⟨⟨_, rfl, LeO.refl _ _⟩, trivial⟩ ⟨rfl, rfl, cut_ok rfl, rfl, cut_ints, rfl, trivial⟩ ⟨⟨by decide, by rw [ren_RH']⟩, trivial⟩⟩
            | some uk =>
              obtain ⟨u, k⟩ := uk
              rw [hget] at cg
              have hkk := getL_le hget
              refine holds_out [] cg rfl trivial (by (try simp only [renO, renL, renL_u8s, ren, u8s_length]) <;> rfl) ?_
              conv => arg 4; whnf
              by_cases he : ae = 0
              · subst he
                rw [show numR al 0 = (zag u, al.drop k, 0) from by simp [numR, hget]] at cn
                refine ⟨fun h => absurd h (by first | (simp; done) | (simp; omega)), fun _ => ?_⟩
                conv => arg 4; whnf
                refine ⟨fun _ => ?_, fun h => absurd h (by simp)⟩
                conv => arg 4; whnf
                refine ⟨by rw [u8s_length]; omega, ?_⟩
                simp only [Int.toNat_natCast, u8s_drop]
                conv => arg 4; whnf
                refine holds_out [0] cn rfl ⟨⟨by decide, by rw [ren_RH']; rfl⟩, trivial⟩ rfl ?_
                conv => arg 4; whnf
                simp only [renL_u8s]
                refine ⟨fun h => absurd h (by first | (simp; done) | (simp [u8s]; done)), fun _ => ?_⟩
                conv => arg 4; whnf
                have hlen : ((al.drop k)).length ≤ 300 := by first | omega | (simp; omega)
                refine ⟨fun h => absurd h (by simp), fun _ => ?_⟩
                conv => arg 4; whnf
                refine holds_out [0] (rLeft (b := (al.drop k)) (e := 0)) rfl ⟨⟨by decide, by rw [ren_RH']; rfl⟩, trivial⟩ rfl ?_
                conv => arg 4; whnf
                simp only [renL_u8s]
                rw [if_pos (by simp)]
                refine ⟨fun h => absurd h (by simp [u8s_length]), fun _ => ?_⟩
                conv => arg 4; whnf
                refine holds_out [0] (rErr (b := (al.drop k)) (e := 0)) rfl ⟨⟨by decide, by rw [ren_RH']; rfl⟩, trivial⟩ rfl ?_
                conv => arg 4; whnf
                simp only [renL_u8s]
                refine ⟨fun h => absurd h (by first | (simp; done) | (simp [u8s]; done)), fun _ => ?_⟩
                conv => arg 4; whnf
                refine ⟨fun _ => ?_, fun h => absurd h (by first | (simp; done) | (simp [u8s]; done))⟩
                conv => arg 4; whnf
                refine ⟨(al.drop k), rfl, ?_⟩
                conv => arg 4; whnf
                refine holds_out [0] (rRest (b := (al.drop k)) (e := 0)) rfl ⟨⟨by decide, by rw [ren_RH']; rfl⟩, trivial⟩ rfl ?_
                conv => arg 4; whnf
                simp only [renL_u8s]
                refine holds_out [0, 1] (rest (b := (al.drop k)) (most := 1000) (by omega)) rfl ⟨⟨by decide, rfl⟩, ⟨by decide, by rw [ren_RH']; rfl⟩, trivial⟩ rfl ?_
                conv => arg 4; whnf
                simp only [renL_u8s]
                refine ⟨(al.drop k).take 1000, rfl, ?_⟩
                conv => arg 4; whnf
                rw [List.take_of_length_le (by omega)]
                refine ⟨fun h => absurd h (by first | (simp; done) | (simp [u8s]; done)), fun _ => ?_⟩
                conv => arg 4; whnf
                refine holds_out [0] (rRest (b := (al.drop k)) (e := 0)) rfl ⟨⟨by decide, by rw [ren_RH']; rfl⟩, trivial⟩ rfl ?_
                conv => arg 4; whnf
                simp only [renL_u8s]
                refine holds_out [0, 2] (rest (b := (al.drop k)) (most := 2) (by omega)) rfl ⟨⟨by decide, rfl⟩, ⟨by decide, by rw [ren_RH']; rfl⟩, trivial⟩ rfl ?_
                conv => arg 4; whnf
                simp only [renL_u8s]
                have hmin : ((u8s ((al.drop k).take 2)).length : Int) = if ((u8s (al.drop k)).length : Int) < 2 then ((u8s (al.drop k)).length : Int) else 2 := by
                  simp only [u8s_length, List.length_take]
                  split <;> omega
                rw [hmin]
                refine ⟨fun h => absurd h (by first | (simp; done) | (simp [u8s]; done)), fun _ => ?_⟩
                conv => arg 4; whnf
                refine ⟨⟨ai + 1, (al.drop k), 0, hi, by first | omega | (simp; omega)⟩, by show ks.length - (ai + 1) < ks.length - ai; omega, WkG.of rfl rfl ⟨Le.of_eq (succ_int (by omega)), Le.refl _ _, Le.refl _ _, Le.refl _ _, Le.refl _ _, Le.refl _ _, trivial⟩ ⟨⟨_, rfl, LeO.refl _ _⟩, trivial⟩ ⟨rfl, rfl, cut_ok rfl, rfl, cut_ints, rfl, trivial⟩ ⟨⟨by decide, by rw [ren_RH']⟩, trivial⟩⟩
              · rw [show numR al ae = (0, al, ae) from by simp [numR, he]] at cn
                refine ⟨fun h => absurd h (by simp [he]), fun _ => ?_⟩
                conv => arg 4; whnf
                refine ⟨fun h => absurd h (by simp [he]), fun _ => ?_⟩
                conv => arg 4; whnf
                refine holds_out [0] cn rfl ⟨⟨by decide, by rw [ren_RH']; rfl⟩, trivial⟩ rfl ?_
                conv => arg 4; whnf
                simp only [renL_u8s]
                refine ⟨fun h => absurd h (by first | (simp; done) | (simp [u8s]; done)), fun _ => ?_⟩
                conv => arg 4; whnf
                refine ⟨fun _ => ?_, fun h => absurd h (by simp [he])⟩
                conv => arg 4; whnf
                refine holds_out [0] (rLeft (b := al) (e := ae)) rfl ⟨⟨by decide, by rw [ren_RH']; rfl⟩, trivial⟩ rfl ?_
                conv => arg 4; whnf
                simp only [renL_u8s]
                rw [if_neg (by simp [he])]
                refine ⟨fun h => absurd h (by first | (simp; done) | (simp [u8s]; done)), fun _ => ?_⟩
                conv => arg 4; whnf
                refine holds_out [0] (rErr (b := al) (e := ae)) rfl ⟨⟨by decide, by rw [ren_RH']; rfl⟩, trivial⟩ rfl ?_
                conv => arg 4; whnf
                simp only [renL_u8s]
                refine ⟨fun h => absurd h (by first | (simp; done) | (simp [u8s]; done)), fun _ => ?_⟩
                conv => arg 4; whnf
                refine ⟨fun h => absurd h (by simp [he]), fun _ => ?_⟩
                conv => arg 4; whnf
                refine ⟨⟨ai + 1, al, ae, hi, by first | omega | (simp; omega)⟩, by show ks.length - (ai + 1) < ks.length - ai; omega, WkG.of rfl rfl ⟨Le.of_eq (succ_int (by omega)), Le.refl _ _, Le.refl _ _, Le.refl _ _, Le.refl _ _, Le.refl _ _, trivial⟩ ⟨⟨_, rfl, LeO.refl _ _⟩, trivial⟩ ⟨rfl, rfl, cut_ok rfl, rfl, cut_ints, rfl, trivial⟩ ⟨⟨by decide, by rw [ren_RH']⟩, trivial⟩⟩
          · have h3 : ¬ c = 8 := by simp at h3; omega
            have cb := rBytes (b := al) (e := ae) (most := most) (by omega)
            have cx := rText (b := al) (e := ae) (most := most) (by omega)
            have cg := refGetBytes (b := al) (most := most) (by omega)
            conv => arg 4; whnf
            by_cases he : ae = 0
            · subst he
              unfold bytesA at cg
              refine ⟨fun _ => ?_, fun h => absurd h (by simp)⟩
              conv => arg 4; whnf
              cases hget : getL 0 0 al with
              | none =>
                rw [hget] at cg
                have hb : bytesR al 0 most = ([], al, 2) := by simp [bytesR, hget]
                rw [hb] at cb cx
                refine holds_out [] cg rfl trivial (by (try simp only [renO, renL, renL_u8s, ren, u8s_length]) <;> rfl) ?_
                conv => arg 4; whnf
                refine ⟨fun h => absurd h (by simp), fun _ => ?_⟩
                conv => arg 4; whnf
                by_cases h9 : c = 9
                · subst h9
                  refine ⟨fun _ => ?_, fun h => absurd h (by first | (simp; done) | (simp; omega))⟩
                  conv => arg 4; whnf
                  refine holds_out [0] cb rfl ⟨⟨by decide, by rw [ren_RH']; rfl⟩, trivial⟩ rfl ?_
                  conv => arg 4; whnf
                  simp only [renL_u8s]
                  refine ⟨[], rfl, ?_⟩
                  conv => arg 4; whnf
                  refine ⟨fun h => absurd h (by first | (simp; done) | (simp [u8s]; done)), fun _ => ?_⟩
                  conv => arg 4; whnf
                  refine ⟨fun _ => ?_, fun h => absurd h (by simp)⟩
                  conv => arg 4; whnf
                  refine holds_out [0] (rLeft (b := al) (e := 2)) rfl ⟨⟨by decide, by rw [ren_RH']; rfl⟩, trivial⟩ rfl ?_
                  conv => arg 4; whnf
                  simp only [renL_u8s]
                  rw [if_neg (by simp)]
                  refine ⟨fun h => absurd h (by first | (simp; done) | (simp [u8s]; done)), fun _ => ?_⟩
                  conv => arg 4; whnf
                  refine holds_out [0] (rErr (b := al) (e := 2)) rfl ⟨⟨by decide, by rw [ren_RH']; rfl⟩, trivial⟩ rfl ?_
                  conv => arg 4; whnf
                  simp only [renL_u8s]
                  refine ⟨fun h => absurd h (by first | (simp; done) | (simp [u8s]; done)), fun _ => ?_⟩
                  conv => arg 4; whnf
                  refine ⟨fun h => absurd h (by simp), fun _ => ?_⟩
                  conv => arg 4; whnf
                  refine ⟨⟨ai + 1, al, 2, hi, by first | omega | (simp; omega)⟩, by show ks.length - (ai + 1) < ks.length - ai; omega, WkG.of rfl rfl ⟨Le.of_eq (succ_int (by omega)), Le.refl _ _, Le.refl _ _, Le.refl _ _, Le.refl _ _, Le.refl _ _, trivial⟩ ⟨⟨_, rfl, LeO.refl _ _⟩, trivial⟩ ⟨rfl, rfl, cut_ok rfl, rfl, cut_ints, rfl, trivial⟩ ⟨⟨by decide, by rw [ren_RH']⟩, trivial⟩⟩
                · have h10 : c = 10 := by omega
                  subst h10
                  refine ⟨fun h => absurd h (by first | (simp; done) | (simp; omega)), fun _ => ?_⟩
                  conv => arg 4; whnf
                  refine holds_out [0] cx rfl ⟨⟨by decide, by rw [ren_RH']; rfl⟩, trivial⟩ rfl ?_
                  conv => arg 4; whnf
                  simp only [renL_u8s]
                  refine ⟨fun h => absurd h (by first | (simp; done) | (simp [u8s]; done)), fun _ => ?_⟩
                  conv => arg 4; whnf
                  refine ⟨fun _ => ?_, fun h => absurd h (by simp)⟩
                  conv => arg 4; whnf
                  refine holds_out [0] (rLeft (b := al) (e := 2)) rfl ⟨⟨by decide, by rw [ren_RH']; rfl⟩, trivial⟩ rfl ?_
                  conv => arg 4; whnf
                  simp only [renL_u8s]
                  rw [if_neg (by simp)]
                  refine ⟨fun h => absurd h (by first | (simp; done) | (simp [u8s]; done)), fun _ => ?_⟩
                  conv => arg 4; whnf
                  refine holds_out [0] (rErr (b := al) (e := 2)) rfl ⟨⟨by decide, by rw [ren_RH']; rfl⟩, trivial⟩ rfl ?_
                  conv => arg 4; whnf
                  simp only [renL_u8s]
                  refine ⟨fun h => absurd h (by first | (simp; done) | (simp [u8s]; done)), fun _ => ?_⟩
                  conv => arg 4; whnf
                  refine ⟨fun h => absurd h (by simp), fun _ => ?_⟩
                  conv => arg 4; whnf
                  refine ⟨⟨ai + 1, al, 2, hi, by first | omega | (simp; omega)⟩, by show ks.length - (ai + 1) < ks.length - ai; omega, WkG.of rfl rfl ⟨Le.of_eq (succ_int (by omega)), Le.refl _ _, Le.refl _ _, Le.refl _ _, Le.refl _ _, Le.refl _ _, trivial⟩ ⟨⟨_, rfl, LeO.refl _ _⟩, trivial⟩ ⟨rfl, rfl, cut_ok rfl, rfl, cut_ints, rfl, trivial⟩ ⟨⟨by decide, by rw [ren_RH']⟩, trivial⟩⟩
              | some uk =>
                obtain ⟨u, k⟩ := uk
                rw [hget] at cg
                have hkk := getL_le hget
                simp only at cg
                by_cases g1 : zag u < 0 ∨ zag u > al.length - k
                · rw [if_pos g1] at cg
                  have hb : bytesR al 0 most = ([], al, 2) := by simp only [bytesR, hget]; rw [if_neg (by simp), if_pos g1]
                  rw [hb] at cb cx
                  refine holds_out [] cg rfl trivial (by (try simp only [renO, renL, renL_u8s, ren, u8s_length]) <;> rfl) ?_
                  conv => arg 4; whnf
                  refine ⟨fun h => absurd h (by simp), fun _ => ?_⟩
                  conv => arg 4; whnf
                  by_cases h9 : c = 9
                  · subst h9
                    refine ⟨fun _ => ?_, fun h => absurd h (by first | (simp; done) | (simp; omega))⟩
                    conv => arg 4; whnf
                    refine holds_out [0] cb rfl ⟨⟨by decide, by rw [ren_RH']; rfl⟩, trivial⟩ rfl ?_
                    conv => arg 4; whnf
                    simp only [renL_u8s]
                    refine ⟨[], rfl, ?_⟩
                    conv => arg 4; whnf
                    refine ⟨fun h => absurd h (by first | (simp; done) | (simp [u8s]; done)), fun _ => ?_⟩
                    conv => arg 4; whnf
                    refine ⟨fun _ => ?_, fun h => absurd h (by simp)⟩
                    conv => arg 4; whnf
                    refine holds_out [0] (rLeft (b := al) (e := 2)) rfl ⟨⟨by decide, by rw [ren_RH']; rfl⟩, trivial⟩ rfl ?_
                    conv => arg 4; whnf
                    simp only [renL_u8s]
                    rw [if_neg (by simp)]
                    refine ⟨fun h => absurd h (by first | (simp; done) | (simp [u8s]; done)), fun _ => ?_⟩
                    conv => arg 4; whnf
                    refine holds_out [0] (rErr (b := al) (e := 2)) rfl ⟨⟨by decide, by rw [ren_RH']; rfl⟩, trivial⟩ rfl ?_
                    conv => arg 4; whnf
                    simp only [renL_u8s]
                    refine ⟨fun h => absurd h (by first | (simp; done) | (simp [u8s]; done)), fun _ => ?_⟩
                    conv => arg 4; whnf
                    refine ⟨fun h => absurd h (by simp), fun _ => ?_⟩
                    conv => arg 4; whnf
                    refine ⟨⟨ai + 1, al, 2, hi, by first | omega | (simp; omega)⟩, by show ks.length - (ai + 1) < ks.length - ai; omega, WkG.of rfl rfl ⟨Le.of_eq (succ_int (by omega)), Le.refl _ _, Le.refl _ _, Le.refl _ _, Le.refl _ _, Le.refl _ _, trivial⟩ ⟨⟨_, rfl, LeO.refl _ _⟩, trivial⟩ ⟨rfl, rfl, cut_ok rfl, rfl, cut_ints, rfl, trivial⟩ ⟨⟨by decide, by rw [ren_RH']⟩, trivial⟩⟩
                  · have h10 : c = 10 := by omega
                    subst h10
                    refine ⟨fun h => absurd h (by first | (simp; done) | (simp; omega)), fun _ => ?_⟩
                    conv => arg 4; whnf
                    refine holds_out [0] cx rfl ⟨⟨by decide, by rw [ren_RH']; rfl⟩, trivial⟩ rfl ?_
                    conv => arg 4; whnf
                    simp only [renL_u8s]
                    refine ⟨fun h => absurd h (by first | (simp; done) | (simp [u8s]; done)), fun _ => ?_⟩
                    conv => arg 4; whnf
                    refine ⟨fun _ => ?_, fun h => absurd h (by simp)⟩
                    conv => arg 4; whnf
                    refine holds_out [0] (rLeft (b := al) (e := 2)) rfl ⟨⟨by decide, by rw [ren_RH']; rfl⟩, trivial⟩ rfl ?_
                    conv => arg 4; whnf
                    simp only [renL_u8s]
                    rw [if_neg (by simp)]
                    refine ⟨fun h => absurd h (by first | (simp; done) | (simp [u8s]; done)), fun _ => ?_⟩
                    conv => arg 4; whnf
                    refine holds_out [0] (rErr (b := al) (e := 2)) rfl ⟨⟨by decide, by rw [ren_RH']; rfl⟩, trivial⟩ rfl ?_
                    conv => arg 4; whnf
                    simp only [renL_u8s]
                    refine ⟨fun h => absurd h (by first | (simp; done) | (simp [u8s]; done)), fun _ => ?_⟩
                    conv => arg 4; whnf
                    refine ⟨fun h => absurd h (by simp), fun _ => ?_⟩
                    conv => arg 4; whnf
                    refine ⟨⟨ai + 1, al, 2, hi, by first | omega | (simp; omega)⟩, by show ks.length - (ai + 1) < ks.length - ai; omega, WkG.of rfl rfl ⟨Le.of_eq (succ_int (by omega)), Le.refl _ _, Le.refl _ _, Le.refl _ _, Le.refl _ _, Le.refl _ _, trivial⟩ ⟨⟨_, rfl, LeO.refl _ _⟩, trivial⟩ ⟨rfl, rfl, cut_ok rfl, rfl, cut_ints, rfl, trivial⟩ ⟨⟨by decide, by rw [ren_RH']⟩, trivial⟩⟩
                · rw [if_neg g1] at cg
                  by_cases g2 : zag u > most
                  · rw [if_pos g2] at cg
                    have hb : bytesR al 0 most = ([], al, 3) := by simp only [bytesR, hget]; rw [if_neg (by simp), if_neg g1, if_pos g2]
                    rw [hb] at cb cx
                    refine holds_out [] cg rfl trivial (by (try simp only [renO, renL, renL_u8s, ren, u8s_length]) <;> rfl) ?_
                    conv => arg 4; whnf
                    refine ⟨fun h => absurd h (by simp), fun _ => ?_⟩
                    conv => arg 4; whnf
                    by_cases h9 : c = 9
                    · subst h9
                      refine ⟨fun _ => ?_, fun h => absurd h (by first | (simp; done) | (simp; omega))⟩
                      conv => arg 4; whnf
                      refine holds_out [0] cb rfl ⟨⟨by decide, by rw [ren_RH']; rfl⟩, trivial⟩ rfl ?_
                      conv => arg 4; whnf
                      simp only [renL_u8s]
                      refine ⟨[], rfl, ?_⟩
                      conv => arg 4; whnf
                      refine ⟨fun h => absurd h (by first | (simp; done) | (simp [u8s]; done)), fun _ => ?_⟩
                      conv => arg 4; whnf
                      refine ⟨fun _ => ?_, fun h => absurd h (by simp)⟩
                      conv => arg 4; whnf
                      refine holds_out [0] (rLeft (b := al) (e := 3)) rfl ⟨⟨by decide, by rw [ren_RH']; rfl⟩, trivial⟩ rfl ?_
                      conv => arg 4; whnf
                      simp only [renL_u8s]
                      rw [if_neg (by simp)]
                      refine ⟨fun h => absurd h (by first | (simp; done) | (simp [u8s]; done)), fun _ => ?_⟩
                      conv => arg 4; whnf
                      refine holds_out [0] (rErr (b := al) (e := 3)) rfl ⟨⟨by decide, by rw [ren_RH']; rfl⟩, trivial⟩ rfl ?_
                      conv => arg 4; whnf
                      simp only [renL_u8s]
                      refine ⟨fun h => absurd h (by first | (simp; done) | (simp [u8s]; done)), fun _ => ?_⟩
                      conv => arg 4; whnf
                      refine ⟨fun h => absurd h (by simp), fun _ => ?_⟩
                      conv => arg 4; whnf
                      refine ⟨⟨ai + 1, al, 3, hi, by first | omega | (simp; omega)⟩, by show ks.length - (ai + 1) < ks.length - ai; omega, WkG.of rfl rfl ⟨Le.of_eq (succ_int (by omega)), Le.refl _ _, Le.refl _ _, Le.refl _ _, Le.refl _ _, Le.refl _ _, trivial⟩ ⟨⟨_, rfl, LeO.refl _ _⟩, trivial⟩ ⟨rfl, rfl, cut_ok rfl, rfl, cut_ints, rfl, trivial⟩ ⟨⟨by decide, by rw [ren_RH']⟩, trivial⟩⟩
                    · have h10 : c = 10 := by omega
                      subst h10
                      refine ⟨fun h => absurd h (by first | (simp; done) | (simp; omega)), fun _ => ?_⟩
                      conv => arg 4; whnf
                      refine holds_out [0] cx rfl ⟨⟨by decide, by rw [ren_RH']; rfl⟩, trivial⟩ rfl ?_
                      conv => arg 4; whnf
                      simp only [renL_u8s]
                      refine ⟨fun h => absurd h (by first | (simp; done) | (simp [u8s]; done)), fun _ => ?_⟩
                      conv => arg 4; whnf
                      refine ⟨fun _ => ?_, fun h => absurd h (by simp)⟩
                      conv => arg 4; whnf
                      refine holds_out [0] (rLeft (b := al) (e := 3)) rfl ⟨⟨by decide, by rw [ren_RH']; rfl⟩, trivial⟩ rfl ?_
                      conv => arg 4; whnf
                      simp only [renL_u8s]
                      rw [if_neg (by simp)]
                      refine ⟨fun h => absurd h (by first | (simp; done) | (simp [u8s]; done)), fun _ => ?_⟩
                      conv => arg 4; whnf
                      refine holds_out [0] (rErr (b := al) (e := 3)) rfl ⟨⟨by decide, by rw [ren_RH']; rfl⟩, trivial⟩ rfl ?_
                      conv => arg 4; whnf
                      simp only [renL_u8s]
                      refine ⟨fun h => absurd h (by first | (simp; done) | (simp [u8s]; done)), fun _ => ?_⟩
                      conv => arg 4; whnf
                      refine ⟨fun h => absurd h (by simp), fun _ => ?_⟩
                      conv => arg 4; whnf
                      refine ⟨⟨ai + 1, al, 3, hi, by first | omega | (simp; omega)⟩, by show ks.length - (ai + 1) < ks.length - ai; omega, WkG.of rfl rfl ⟨Le.of_eq (succ_int (by omega)), Le.refl _ _, Le.refl _ _, Le.refl _ _, Le.refl _ _, Le.refl _ _, trivial⟩ ⟨⟨_, rfl, LeO.refl _ _⟩, trivial⟩ ⟨rfl, rfl, cut_ok rfl, rfl, cut_ints, rfl, trivial⟩ ⟨⟨by decide, by rw [ren_RH']⟩, trivial⟩⟩
                  · rw [if_neg g2] at cg
                    have hb : bytesR al 0 most = ((al.drop k).take (zag u).toNat, (al.drop k).drop (zag u).toNat, 0) := by simp only [bytesR, hget]; rw [if_neg (by simp), if_neg g1, if_neg g2]
                    rw [hb] at cb cx
                    refine holds_out [] cg rfl trivial (by (try simp only [renO, renL, renL_u8s, ren, u8s_length]) <;> rfl) ?_
                    conv => arg 4; whnf
                    simp only [renL_u8s]
                    refine ⟨fun _ => ?_, fun h => absurd h (by simp)⟩
                    conv => arg 4; whnf
                    by_cases h9 : c = 9
                    · subst h9
                      refine ⟨fun _ => ?_, fun h => absurd h (by first | (simp; done) | (simp; omega))⟩
                      conv => arg 4; whnf
                      refine holds_out [0] cb rfl ⟨⟨by decide, by rw [ren_RH']; rfl⟩, trivial⟩ rfl ?_
                      conv => arg 4; whnf
                      simp only [renL_u8s]
                      refine ⟨(al.drop k).take (zag u).toNat, rfl, ?_⟩
                      conv => arg 4; whnf
                      refine ⟨(al.drop k).take (zag u).toNat, rfl, ?_⟩
                      conv => arg 4; whnf
                      refine ⟨fun h => absurd h (by first | (simp; done) | (simp [u8s]; done)), fun _ => ?_⟩
                      conv => arg 4; whnf
                      have hlen : (((al.drop k).drop (zag u).toNat)).length ≤ 300 := by first | omega | (simp; omega)
                      refine ⟨fun h => absurd h (by simp), fun _ => ?_⟩
                      conv => arg 4; whnf
                      refine holds_out [0] (rLeft (b := ((al.drop k).drop (zag u).toNat)) (e := 0)) rfl ⟨⟨by decide, by rw [ren_RH']; rfl⟩, trivial⟩ rfl ?_
                      conv => arg 4; whnf
                      simp only [renL_u8s]
                      rw [if_pos (by simp)]
                      refine ⟨fun h => absurd h (by simp [u8s_length]), fun _ => ?_⟩
                      conv => arg 4; whnf
                      refine holds_out [0] (rErr (b := ((al.drop k).drop (zag u).toNat)) (e := 0)) rfl ⟨⟨by decide, by rw [ren_RH']; rfl⟩, trivial⟩ rfl ?_
                      conv => arg 4; whnf
                      simp only [renL_u8s]
                      refine ⟨fun h => absurd h (by first | (simp; done) | (simp [u8s]; done)), fun _ => ?_⟩
                      conv => arg 4; whnf
                      refine ⟨fun _ => ?_, fun h => absurd h (by first | (simp; done) | (simp [u8s]; done))⟩
                      conv => arg 4; whnf
                      refine ⟨((al.drop k).drop (zag u).toNat), rfl, ?_⟩
                      conv => arg 4; whnf
                      refine holds_out [0] (rRest (b := ((al.drop k).drop (zag u).toNat)) (e := 0)) rfl ⟨⟨by decide, by rw [ren_RH']; rfl⟩, trivial⟩ rfl ?_
                      conv => arg 4; whnf
                      simp only [renL_u8s]
                      refine holds_out [0, 1] (rest (b := ((al.drop k).drop (zag u).toNat)) (most := 1000) (by omega)) rfl ⟨⟨by decide, rfl⟩, ⟨by decide, by rw [ren_RH']; rfl⟩, trivial⟩ rfl ?_
                      conv => arg 4; whnf
                      simp only [renL_u8s]
                      refine ⟨((al.drop k).drop (zag u).toNat).take 1000, rfl, ?_⟩
                      conv => arg 4; whnf
                      rw [List.take_of_length_le (by omega)]
                      refine ⟨fun h => absurd h (by first | (simp; done) | (simp [u8s]; done)), fun _ => ?_⟩
                      conv => arg 4; whnf
                      refine holds_out [0] (rRest (b := ((al.drop k).drop (zag u).toNat)) (e := 0)) rfl ⟨⟨by decide, by rw [ren_RH']; rfl⟩, trivial⟩ rfl ?_
                      conv => arg 4; whnf
                      simp only [renL_u8s]
                      refine holds_out [0, 2] (rest (b := ((al.drop k).drop (zag u).toNat)) (most := 2) (by omega)) rfl ⟨⟨by decide, rfl⟩, ⟨by decide, by rw [ren_RH']; rfl⟩, trivial⟩ rfl ?_
                      conv => arg 4; whnf
                      simp only [renL_u8s]
                      have hmin : ((u8s (((al.drop k).drop (zag u).toNat).take 2)).length : Int) = if ((u8s ((al.drop k).drop (zag u).toNat)).length : Int) < 2 then ((u8s ((al.drop k).drop (zag u).toNat)).length : Int) else 2 := by
                        simp only [u8s_length, List.length_take]
                        split <;> omega
                      rw [hmin]
                      refine ⟨fun h => absurd h (by first | (simp; done) | (simp [u8s]; done)), fun _ => ?_⟩
                      conv => arg 4; whnf
                      refine ⟨⟨ai + 1, ((al.drop k).drop (zag u).toNat), 0, hi, by first | omega | (simp; omega)⟩, by show ks.length - (ai + 1) < ks.length - ai; omega, WkG.of rfl rfl ⟨Le.of_eq (succ_int (by omega)), Le.refl _ _, Le.refl _ _, Le.refl _ _, Le.refl _ _, Le.refl _ _, trivial⟩ ⟨⟨_, rfl, LeO.refl _ _⟩, trivial⟩ ⟨rfl, rfl, cut_ok rfl, rfl, cut_ints, rfl, trivial⟩ ⟨⟨by decide, by rw [ren_RH']⟩, trivial⟩⟩
                    · have h10 : c = 10 := by omega
                      subst h10
                      refine ⟨fun h => absurd h (by first | (simp; done) | (simp; omega)), fun _ => ?_⟩
                      conv => arg 4; whnf
                      refine holds_out [0] cx rfl ⟨⟨by decide, by rw [ren_RH']; rfl⟩, trivial⟩ rfl ?_
                      conv => arg 4; whnf
                      simp only [renL_u8s]
                      refine ⟨(al.drop k).take (zag u).toNat, rfl, ?_⟩
                      conv => arg 4; whnf
                      refine ⟨fun h => absurd h (by first | (simp; done) | (simp [u8s]; done)), fun _ => ?_⟩
                      conv => arg 4; whnf
                      have hlen : (((al.drop k).drop (zag u).toNat)).length ≤ 300 := by first | omega | (simp; omega)
                      refine ⟨fun h => absurd h (by simp), fun _ => ?_⟩
                      conv => arg 4; whnf
                      refine holds_out [0] (rLeft (b := ((al.drop k).drop (zag u).toNat)) (e := 0)) rfl ⟨⟨by decide, by rw [ren_RH']; rfl⟩, trivial⟩ rfl ?_
                      conv => arg 4; whnf
                      simp only [renL_u8s]
                      rw [if_pos (by simp)]
                      refine ⟨fun h => absurd h (by simp [u8s_length]), fun _ => ?_⟩
                      conv => arg 4; whnf
                      refine holds_out [0] (rErr (b := ((al.drop k).drop (zag u).toNat)) (e := 0)) rfl ⟨⟨by decide, by rw [ren_RH']; rfl⟩, trivial⟩ rfl ?_
                      conv => arg 4; whnf
                      simp only [renL_u8s]
                      refine ⟨fun h => absurd h (by first | (simp; done) | (simp [u8s]; done)), fun _ => ?_⟩
                      conv => arg 4; whnf
                      refine ⟨fun _ => ?_, fun h => absurd h (by first | (simp; done) | (simp [u8s]; done))⟩
                      conv => arg 4; whnf
                      refine ⟨((al.drop k).drop (zag u).toNat), rfl, ?_⟩
                      conv => arg 4; whnf
                      refine holds_out [0] (rRest (b := ((al.drop k).drop (zag u).toNat)) (e := 0)) rfl ⟨⟨by decide, by rw [ren_RH']; rfl⟩, trivial⟩ rfl ?_
                      conv => arg 4; whnf
                      simp only [renL_u8s]
                      refine holds_out [0, 1] (rest (b := ((al.drop k).drop (zag u).toNat)) (most := 1000) (by omega)) rfl ⟨⟨by decide, rfl⟩, ⟨by decide, by rw [ren_RH']; rfl⟩, trivial⟩ rfl ?_
                      conv => arg 4; whnf
                      simp only [renL_u8s]
                      refine ⟨((al.drop k).drop (zag u).toNat).take 1000, rfl, ?_⟩
                      conv => arg 4; whnf
                      rw [List.take_of_length_le (by omega)]
                      refine ⟨fun h => absurd h (by first | (simp; done) | (simp [u8s]; done)), fun _ => ?_⟩
                      conv => arg 4; whnf
                      refine holds_out [0] (rRest (b := ((al.drop k).drop (zag u).toNat)) (e := 0)) rfl ⟨⟨by decide, by rw [ren_RH']; rfl⟩, trivial⟩ rfl ?_
                      conv => arg 4; whnf
                      simp only [renL_u8s]
                      refine holds_out [0, 2] (rest (b := ((al.drop k).drop (zag u).toNat)) (most := 2) (by omega)) rfl ⟨⟨by decide, rfl⟩, ⟨by decide, by rw [ren_RH']; rfl⟩, trivial⟩ rfl ?_
                      conv => arg 4; whnf
                      simp only [renL_u8s]
                      have hmin : ((u8s (((al.drop k).drop (zag u).toNat).take 2)).length : Int) = if ((u8s ((al.drop k).drop (zag u).toNat)).length : Int) < 2 then ((u8s ((al.drop k).drop (zag u).toNat)).length : Int) else 2 := by
                        simp only [u8s_length, List.length_take]
                        split <;> omega
                      rw [hmin]
                      refine ⟨fun h => absurd h (by first | (simp; done) | (simp [u8s]; done)), fun _ => ?_⟩
                      conv => arg 4; whnf
                      refine ⟨⟨ai + 1, ((al.drop k).drop (zag u).toNat), 0, hi, by first | omega | (simp; omega)⟩, by show ks.length - (ai + 1) < ks.length - ai; omega, WkG.of rfl rfl ⟨Le.of_eq (succ_int (by omega)), Le.refl _ _, Le.refl _ _, Le.refl _ _, Le.refl _ _, Le.refl _ _, trivial⟩ ⟨⟨_, rfl, LeO.refl _ _⟩, trivial⟩ ⟨rfl, rfl, cut_ok rfl, rfl, cut_ints, rfl, trivial⟩ ⟨⟨by decide, by rw [ren_RH']⟩, trivial⟩⟩
            · have hb : bytesR al ae most = ([], al, ae) := by simp only [bytesR]; rw [if_pos he]
              rw [hb] at cb cx
              refine ⟨fun h => absurd h (by simp [he]), fun _ => ?_⟩
              conv => arg 4; whnf
              by_cases h9 : c = 9
              · subst h9
                refine ⟨fun _ => ?_, fun h => absurd h (by first | (simp; done) | (simp; omega))⟩
                conv => arg 4; whnf
                refine holds_out [0] cb rfl ⟨⟨by decide, by rw [ren_RH']; rfl⟩, trivial⟩ rfl ?_
                conv => arg 4; whnf
                simp only [renL_u8s]
                refine ⟨[], rfl, ?_⟩
                conv => arg 4; whnf
                refine ⟨fun h => absurd h (by first | (simp; done) | (simp [u8s]; done)), fun _ => ?_⟩
                conv => arg 4; whnf
                refine ⟨fun _ => ?_, fun h => absurd h (by simp [he])⟩
                conv => arg 4; whnf
                refine holds_out [0] (rLeft (b := al) (e := ae)) rfl ⟨⟨by decide, by rw [ren_RH']; rfl⟩, trivial⟩ rfl ?_
                conv => arg 4; whnf
                simp only [renL_u8s]
                rw [if_neg (by simp [he])]
                refine ⟨fun h => absurd h (by first | (simp; done) | (simp [u8s]; done)), fun _ => ?_⟩
                conv => arg 4; whnf
                refine holds_out [0] (rErr (b := al) (e := ae)) rfl ⟨⟨by decide, by rw [ren_RH']; rfl⟩, trivial⟩ rfl ?_
                conv => arg 4; whnf
                simp only [renL_u8s]
                refine ⟨fun h => absurd h (by first | (simp; done) | (simp [u8s]; done)), fun _ => ?_⟩
                conv => arg 4; whnf
                refine ⟨fun h => absurd h (by simp [he]), fun _ => ?_⟩
                conv => arg 4; whnf
                refine ⟨⟨ai + 1, al, ae, hi, by first | omega | (simp; omega)⟩, by show ks.length - (ai + 1) < ks.length - ai; omega, WkG.of rfl rfl ⟨Le.of_eq (succ_int (by omega)), Le.refl _ _, Le.refl _ _, Le.refl _ _, Le.refl _ _, Le.refl _ _, trivial⟩ ⟨⟨_, rfl, LeO.refl _ _⟩, trivial⟩ ⟨rfl, rfl, cut_ok rfl, rfl, cut_ints, rfl, trivial⟩ ⟨⟨by decide, by rw [ren_RH']⟩, trivial⟩⟩
              · have h10 : c = 10 := by omega
                subst h10
                refine ⟨fun h => absurd h (by first | (simp; done) | (simp; omega)), fun _ => ?_⟩
                conv => arg 4; whnf
                refine holds_out [0] cx rfl ⟨⟨by decide, by rw [ren_RH']; rfl⟩, trivial⟩ rfl ?_
                conv => arg 4; whnf
                simp only [renL_u8s]
                refine ⟨fun h => absurd h (by first | (simp; done) | (simp [u8s]; done)), fun _ => ?_⟩
                conv => arg 4; whnf
                refine ⟨fun _ => ?_, fun h => absurd h (by simp [he])⟩
                conv => arg 4; whnf
                refine holds_out [0] (rLeft (b := al) (e := ae)) rfl ⟨⟨by decide, by rw [ren_RH']; rfl⟩, trivial⟩ rfl ?_
                conv => arg 4; whnf
                simp only [renL_u8s]
                rw [if_neg (by simp [he])]
                refine ⟨fun h => absurd h (by first | (simp; done) | (simp [u8s]; done)), fun _ => ?_⟩
                conv => arg 4; whnf
                refine holds_out [0] (rErr (b := al) (e := ae)) rfl ⟨⟨by decide, by rw [ren_RH']; rfl⟩, trivial⟩ rfl ?_
                conv => arg 4; whnf
                simp only [renL_u8s]
                refine ⟨fun h => absurd h (by first | (simp; done) | (simp [u8s]; done)), fun _ => ?_⟩
                conv => arg 4; whnf
                refine ⟨fun h => absurd h (by simp [he]), fun _ => ?_⟩
                conv => arg 4; whnf
                refine ⟨⟨ai + 1, al, ae, hi, by first | omega | (simp; omega)⟩, by show ks.length - (ai + 1) < ks.length - ai; omega, WkG.of rfl rfl ⟨Le.of_eq (succ_int (by omega)), Le.refl _ _, Le.refl _ _, Le.refl _ _, Le.refl _ _, Le.refl _ _, trivial⟩ ⟨⟨_, rfl, LeO.refl _ _⟩, trivial⟩ ⟨rfl, rfl, cut_ok rfl, rfl, cut_ints, rfl, trivial⟩ ⟨⟨by decide, by rw [ren_RH']⟩, trivial⟩⟩
      · have hi : ai = ks.length := by simp [ints] at h1; omega
        conv => arg 4; whnf
        refine holds_out [] noneRNum rfl trivial rfl ?_
        conv => arg 4; whnf
        refine ⟨fun _ => ?_, fun h => absurd h (by first | (simp; done) | (simp [u8s]; done))⟩
        conv => arg 4; whnf
        refine holds_out [] noneErr rfl trivial rfl ?_
        conv => arg 4; whnf
        refine ⟨fun _ => ?_, fun h => absurd h (by first | (simp; done) | (simp [u8s]; done))⟩
        conv => arg 4; whnf
        refine holds_out [] noneLeft rfl trivial rfl ?_
        conv => arg 4; whnf
        refine ⟨fun _ => ?_, fun h => absurd h (by first | (simp; done) | (simp [u8s]; done))⟩
        conv => arg 4; whnf
        refine holds_out [] noneBytes rfl trivial rfl ?_
        conv => arg 4; whnf
        refine ⟨fun _ => ?_, fun h => absurd h (by first | (simp; done) | (simp [u8s]; done))⟩
        conv => arg 4; whnf
        refine holds_out [] awake rfl trivial rfl ?_
        conv => arg 4; whnf
        exact .inl rfl
end Go.Proofs.Ytlpbniachlamgaa
