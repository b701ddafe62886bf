/-
  A map's copy.
-/
import Derived.Test.YtlifbhcmihnkpaaTxt3
import Derived.Shelf.SlMaps.Clone
import Derived.Test.YtlifbhcmihnkpaaTxt1
import Derived.Shelf.SlSortCmp.Insertion
import Derived.Shelf.SlSortCmp.NoneTotal
set_option linter.unusedVariables false
set_option linter.unusedSimpArgs false
namespace Go.Proofs.Ytlifbhcmihnkpaa.Cm
set_option maxRecDepth 100000
set_option maxHeartbeats 80000000
open Go.Sym

def cloneRen : Go.Shelf.Ren := ⟨fun n => match n with | 5 => 101 | 7 => 126 | n => n, fun n => match n with | 23 => 143 | 25 => 9 | 3 => 3 | 20 => 20 | n => n, fun n => n⟩

theorem cloneLays : SlLaysW.n5 Try.prog cloneRen where
  mixed := rfl
  f5 := ⟨"maps.Clone[map[string]int,string,int]", by decide, Try.func101⟩
  f7 := Try.func126
  t4 := Try.underlying4
  a4 := Try.isAgg4
  z4 := Try.sizeOf4
  v4 := Try.zeroValue4
  t20 := Try.underlying20
  a20 := Try.isAgg20
  z20 := Try.sizeOf20
  v20 := Try.zeroValue20
  t23 := Try.underlying143
  a23 := Try.isAgg143
  z23 := Try.sizeOf143
  v23 := Try.zeroValue143

theorem mapsClone {es : List (AV × AV)} : CallOK Try.prog 101 [.map 0] [(0, .map es)] 1 (Out (.map 1) [(1, .map es), (0, .map es)] 2) := by
  refine ⟨Try.call101, fun F V w vs i hf hr => ?_⟩
  obtain ⟨b, xs, clock, hv, hh, h1, h2, h3, h4⟩ := i.objs 0 _ rfl
  have hvs : vs.toArray = #[.map (some b)] := by
    simp only [repL, rep] at hr
    obtain ⟨x, r, rfl, ⟨b', hb', rfl⟩, rfl⟩ := hr
    rw [hv] at hb'
    cases hb'
    rfl
  rw [hvs]
  refine (AnyW.maps_Clone cloneLays b xs clock w hh).mono ?_
  rintro e w' ⟨rfl, rfl⟩
  have hV : V.le (V.addObj 1 w.heap.size) := View.le_addObj (hf 1 (Nat.le_refl _)).1
  obtain ⟨i2, s2, f2⟩ := i.newObj (nx := 1) (ob := .map es) (o := .map xs clock) hf (by simp [own, View.addObj]) ⟨w.heap.size, xs, clock, by simp [View.addObj], heap_new w _, h1.mono (.refl F) hV, h2.mono (.refl F) hV, h3, h4⟩
  exact ⟨_, F, _, .map 1, _, 2, rfl, s2, i2, f2, by simp only [rep, View.addObj]; exact ⟨w.heap.size, by simp, rfl⟩, rfl, rfl, rfl⟩
end Go.Proofs.Ytlifbhcmihnkpaa.Cm

namespace Go.Proofs.Ytlifbhcmihnkpaa.Cm
set_option maxRecDepth 100000
set_option maxHeartbeats 80000000
open Go.Sym

abbrev FN := (List UInt8 × Int) × Nat
def curL (L : List FN) (S : List Nat) : List FN := L.filter fun p => !(decide (p.2 ∈ S) && decide (p.1.2 = 0))
theorem cur_nil (L : List FN) : curL L [] = L := by
  unfold curL
  rw [List.filter_eq_self]
  intro p _
  simp
structure DlI (L : List FN) where
  seen : List Nat
  nd : seen.Nodup
  sub : ∀ n ∈ seen, n ∈ L.map (·.2)
theorem DlI.len {L : List FN} (x : DlI L) : x.seen.length ≤ L.length := by
  have := nodup_len x.nd x.sub
  rwa [List.length_map] at this
theorem cur_mem {L : List FN} {S : List Nat} {p : FN} (h : p ∈ curL L S) : p ∈ L := (List.mem_filter.1 h).1
theorem DlI.lt {L : List FN} (x : DlI L) {n : Nat} (hn : n ∈ L.map (·.2)) (h : n ∉ x.seen) : x.seen.length + 1 ≤ L.length := by
  have := nodup_len (l := n :: x.seen) (List.nodup_cons.2 ⟨h, x.nd⟩) (m := L.map (·.2)) fun y hy => by
    rcases List.mem_cons.1 hy with rfl | hy
    · exact hn
    · exact x.sub y hy
  rwa [List.length_map] at this
def DlI.step {L : List FN} (y : DlI L) {n : Nat} (hn : n ∈ L.map (·.2)) (h : n ∉ y.seen) : DlI L :=
  ⟨n :: y.seen, List.nodup_cons.2 ⟨h, y.nd⟩, fun m hm => by
    rcases List.mem_cons.1 hm with rfl | hm
    · exact hn
    · exact y.sub m hm⟩

theorem once_map {p : FN → Bool} : ∀ {L : List FN}, OnceM (L.map (·.1)) → OnceM ((L.filter p).map (·.1))
  | [], _ => trivial
  | q :: r, ⟨h1, h2⟩ => by
    rw [List.filter_cons]
    split
    · refine ⟨?_, once_map h2⟩
      cases hf : findM ((r.filter p).map (·.1)) q.1.1 with
      | none => rfl
      | some v =>
        obtain ⟨z, hz, e⟩ := List.mem_map.1 (findM_mem hf)
        have : (q.1.1, v) ∈ r.map (·.1) := List.mem_map.2 ⟨z, (List.mem_filter.1 hz).1, e⟩
        rw [mem_findM h2 this] at h1
        cases h1
    · exact once_map h2
theorem no_key {k : List UInt8} : ∀ {L : List FN}, findM (L.map (·.1)) k = none → L.filter (fun p => decide (p.1.1 ≠ k)) = L := fun {L} h => by
  rw [List.filter_eq_self]
  intro p hp
  refine decide_eq_true fun e => ?_
  induction L with
  | nil => cases hp
  | cons q r ih =>
    simp only [List.map_cons, findM] at h
    split at h
    · cases h
    · rename_i hne
      rcases List.mem_cons.1 hp with rfl | hp
      · exact hne e.symm
      · exact ih h hp
theorem delM_cur {k : List UInt8} : ∀ {L : List FN}, OnceM (L.map (·.1)) → delM (L.map (·.1)) k = (L.filter fun p => decide (p.1.1 ≠ k)).map (·.1)
  | [], _ => rfl
  | q :: r, ⟨h1, h2⟩ => by
    rw [List.map_cons, List.filter_cons]
    show delM ((q.1.1, q.1.2) :: _) k = _
    simp only [delM]
    by_cases h : k = q.1.1
    · subst h
      rw [if_pos rfl, if_neg (by simp), no_key h1]
    · rw [if_neg h, if_pos (by simpa using fun e => h e.symm), delM_cur h2]
      rfl
theorem delB_cur {k : List UInt8} : ∀ {L : List FN}, OnceM (L.map (·.1)) → delB (fE (L.map (·.1))) (.str k) (L.map (·.2)) = (L.filter fun p => decide (p.1.1 ≠ k)).map (·.2)
  | [], _ => rfl
  | q :: r, ⟨h1, h2⟩ => by
    have ih := delB_cur (k := k) h2
    rw [List.filter_cons]
    simp only [fE, List.map_cons, delB, keyEq_str] at ih ⊢
    by_cases h : k = q.1.1
    · subst h
      rw [decide_eq_true rfl]
      simp only [cond_true]
      rw [if_neg (by simp), no_key h1]
    · rw [decide_eq_false h]
      simp only [cond_false]
      rw [if_pos (by simpa using fun e => h e.symm), ih]
      rfl
/-- Numbers, and keys, stand once. -/
structure FOk (L : List FN) : Prop where
  keys : OnceM (L.map (·.1))
  nums : (L.map (·.2)).Pairwise (· < ·)
theorem FOk.key {L : List FN} (h : FOk L) {p q : FN} (hp : p ∈ L) (hq : q ∈ L) (e : p.1.1 = q.1.1) : p = q := by
  have k1 := mem_findM h.keys (List.mem_map.2 ⟨p, hp, rfl⟩ : (p.1.1, p.1.2) ∈ L.map (·.1))
  have k2 := mem_findM h.keys (List.mem_map.2 ⟨q, hq, rfl⟩ : (q.1.1, q.1.2) ∈ L.map (·.1))
  have hnd := once_nodup h.keys
  rw [List.map_map] at hnd
  obtain ⟨i, hi⟩ := List.mem_iff_getElem?.1 hp
  obtain ⟨j, hj⟩ := List.mem_iff_getElem?.1 hq
  obtain ⟨hil, hie⟩ := List.getElem?_eq_some_iff.1 hi
  obtain ⟨hjl, hje⟩ := List.getElem?_eq_some_iff.1 hj
  have hpw := List.pairwise_iff_getElem.1 hnd
  have hij : i = j := by
    rcases Nat.lt_trichotomy i j with q1 | q1 | q1
    · have := hpw i j (by rw [List.length_map]; exact hil) (by rw [List.length_map]; exact hjl) q1
      rw [List.getElem_map, List.getElem_map, hie, hje] at this
      exact absurd e this
    · exact q1
    · have := hpw j i (by rw [List.length_map]; exact hjl) (by rw [List.length_map]; exact hil) q1
      rw [List.getElem_map, List.getElem_map, hie, hje] at this
      exact absurd e.symm this
  rw [hij, hj] at hi
  cases hi
  rfl
theorem FOk.num {L : List FN} (h : FOk L) {p q : FN} (hp : p ∈ L) (hq : q ∈ L) (e : p.2 = q.2) : p = q := by
  obtain ⟨i, hi⟩ := List.mem_iff_getElem?.1 hp
  obtain ⟨j, hj⟩ := List.mem_iff_getElem?.1 hq
  have : i = j := pair_inj h.nums (n := p.2) (by rw [List.getElem?_map, hi]; rfl) (by rw [List.getElem?_map, hj, e]; rfl)
  rw [this, hj] at hi
  cases hi
  rfl
theorem cur_zero {L : List FN} (h : FOk L) {S : List Nat} {p : FN} (hp : p ∈ L) (hz : p.1.2 = 0) : curL L (p.2 :: S) = (curL L S).filter fun q => decide (q.1.1 ≠ p.1.1) := by
  unfold curL
  rw [List.filter_filter]
  refine List.filter_congr fun q hq => ?_
  by_cases e : q.1.1 = p.1.1
  · obtain rfl := h.key hq hp e
    simp [hz]
  · have hn : q.2 ≠ p.2 := fun e2 => e (by rw [h.num hq hp e2])
    simp [e, hn]
theorem cur_keep {L : List FN} (h : FOk L) {S : List Nat} {p : FN} (hp : p ∈ L) (hz : p.1.2 ≠ 0) : curL L (p.2 :: S) = curL L S := by
  unfold curL
  refine List.filter_congr fun q hq => ?_
  by_cases e : q.2 = p.2
  · obtain rfl := h.num hq hp e
    simp [hz]
  · simp [e]
theorem cur_all {L : List FN} {S : List Nat} (h : ∀ n ∈ (curL L S).map (·.2), n ∈ S) : (curL L S).map (·.1) = nzM (L.map (·.1)) := by
  have : curL L S = L.filter fun p => decide (p.1.2 ≠ 0) := by
    unfold curL at h ⊢
    refine List.filter_congr fun q hq => ?_
    by_cases hz : q.1.2 = 0
    · by_cases hs : q.2 ∈ S
      · simp [hz, hs]
      · exact absurd (h q.2 (List.mem_map.2 ⟨q, List.mem_filter.2 ⟨hq, by simp [hs]⟩, rfl⟩)) hs
    · simp [hz]
  rw [this]
  unfold nzM
  rw [List.filter_map]
  rfl

theorem sameDel {k : List UInt8} {n : Int} : CallOK Try.prog 103 [.str k, .int .i64 n] [] 0 (Out (.bool (n == 0)) [] 0) := by
  refine callOK Try.call103 Try.func103 Try.ntmps103 rfl ?_
  conv => arg 4; whnf
  exact ⟨rfl, rfl, rfl⟩

theorem mapsDel {l : List (List UInt8 × Int)} (ho : OnceM l) : CallOK Try.prog 102 [.map 0, .fn 103 []] [(0, .map (fE l))] 1 (Out (.tup []) [(0, .map (fE (nzM l)))] 1) := by
  refine CallOK.fit (by decide) ?_
  refine callOK Try.call102 Try.func102 Try.ntmps102 rfl ?_
  conv => arg 4; whnf
  intro bs c h1 h2 h3
  (conv => arg 4; whnf); repeat (refine ⟨rfl, ?_⟩; conv => arg 4; whnf)
  have h1 : bs.length = l.length := by simpa [fE] using h1
  obtain ⟨L, hL⟩ : ∃ L : List FN, L = l.zip bs := ⟨_, rfl⟩
  have hLa : L.map (·.1) = l := by rw [hL]; exact List.map_fst_zip (by omega)
  have hLb : L.map (·.2) = bs := by rw [hL]; exact List.map_snd_zip (by omega)
  have ok : FOk L := ⟨by rw [hLa]; exact ho, by rw [hLb]; exact h3⟩
  refine tri_loopG (ι := DlI L) (fun x => ⟨[(7, .ptr 1 0), (0, .map 0), (1, .fn 103 [])], [(1, .iter 0 c x.seen c), (0, .mapN (fE ((curL L x.seen).map (·.1))) ((curL L x.seen).map (·.2)) c)], 2, 19⟩) (fun x => L.length - x.seen.length) ⟨[], List.nodup_nil, fun n hn => by cases hn⟩ ?_ ?_
  · refine WkG.of rfl rfl ⟨Le.refl _ _, Le.refl _ _, Le.refl _ _, trivial⟩ ⟨⟨_, rfl, LeO.refl _ _⟩, ⟨_, rfl, ?_⟩, trivial⟩ ⟨rfl, rfl, rfl, trivial⟩ ⟨⟨by decide, rfl⟩, ⟨by decide, ClO.fN _ _ _ _⟩, trivial⟩
    rw [cur_nil, hLa, hLb]
    exact LeO.refl _ _
  intro y
  have hyl := y.len
  have hb : ∀ n ∈ (curL L y.seen).map (·.2), n < c := fun n hn => by
    obtain ⟨p, hp, rfl⟩ := List.mem_map.1 hn
    exact h2 _ (by rw [← hLb]; exact List.mem_map.2 ⟨p, cur_mem hp, rfl⟩)
  conv => arg 4; whnf
  refine ⟨⟨hb, .inr (rng_ok (by simp [fE]) hb)⟩, fun i n kv hi hkv hn => ?_, fun hall => ?_⟩
  · obtain ⟨x, hx, rfl⟩ := fE_get hkv
    obtain ⟨p, hp, hpx, hpn⟩ : ∃ p, (curL L y.seen)[i]? = some p ∧ p.1 = x ∧ p.2 = n := by
      rw [List.getElem?_map] at hi hx
      obtain ⟨p, hp, e⟩ := Option.map_eq_some_iff.1 hi
      rw [hp] at hx
      exact ⟨p, hp, by simpa using hx, e⟩
    subst hpx; subst hpn
    have hpL : p ∈ L := cur_mem (List.mem_of_getElem? hp)
    have hnL : p.2 ∈ L.map (·.2) := List.mem_map.2 ⟨p, hpL, rfl⟩
    (conv => arg 4; whnf); repeat (refine ⟨rfl, ?_⟩; conv => arg 4; whnf)
    refine ⟨i, _, hi, hkv, ?_⟩
    (conv => arg 4; whnf); repeat (refine ⟨rfl, ?_⟩; conv => arg 4; whnf)
    refine call0 sameDel (by (repeat' (first | with_reducible assumption | exact ClL.nil | exact Cl.int _ _ | exact Cl.bool _ | exact Cl.bl _ | exact Cl.bs _ | exact Cl.str _ | exact Cl.nils | exact Cl.nilp | exact Cl.rec _ | exact Cl.bat _ | exact Cl.recsV _ | exact Cl.strsV _ | exact Cl.intsV _ | exact Cl.req _ | exact Cl.rsp _ | exact Cl.reqA _ | exact Cl.rspA _ | exact Cl.batsV _ | exact Cl.prsV _ | exact Cl.atsV _ | exact Cl.entA _ _ | exact Cl.ent _ | exact Cl.rr _ _ | exact Cl.foundA _ | exact Cl.getB _ | exact Cl.encA _ | exact Cl.firstA _ | refine ClL.cons ?_ ?_ | refine Cl.tup ?_ | refine Cl.agg ?_ | exact ClO.RO _ _))) (by (repeat' (first | with_reducible assumption | exact ClL.nil | exact Cl.int _ _ | exact Cl.bool _ | exact Cl.bl _ | exact Cl.bs _ | exact Cl.str _ | exact Cl.nils | exact Cl.nilp | exact Cl.rec _ | exact Cl.bat _ | exact Cl.recsV _ | exact Cl.strsV _ | exact Cl.intsV _ | exact Cl.req _ | exact Cl.rsp _ | exact Cl.reqA _ | exact Cl.rspA _ | exact Cl.batsV _ | exact Cl.prsV _ | exact Cl.atsV _ | exact Cl.entA _ _ | exact Cl.ent _ | exact Cl.rr _ _ | exact Cl.foundA _ | exact Cl.getB _ | exact Cl.encA _ | exact Cl.firstA _ | refine ClL.cons ?_ ?_ | refine Cl.tup ?_ | refine Cl.agg ?_ | exact ClO.RO _ _))) ?_
    (conv => arg 4; whnf); repeat (refine ⟨rfl, ?_⟩; conv => arg 4; whnf)
    refine ⟨fun hz => ?_, fun hz => ?_⟩
    · have hz : p.1.2 = 0 := by simpa using hz
      (conv => arg 4; whnf); repeat (refine ⟨rfl, ?_⟩; conv => arg 4; whnf)
      refine ⟨askF _ _, ?_⟩
      (conv => arg 4; whnf); repeat (refine ⟨rfl, ?_⟩; conv => arg 4; whnf)
      refine ⟨y.step hnL hn, by show L.length - (y.seen.length + 1) < L.length - y.seen.length; have := y.lt hnL hn; omega, WkG.of rfl rfl ⟨Le.refl _ _, Le.refl _ _, Le.refl _ _, trivial⟩ ⟨⟨_, rfl, LeO.refl _ _⟩, ⟨_, rfl, ?_⟩, trivial⟩ ⟨rfl, rfl, rfl, trivial⟩ ⟨⟨by decide, rfl⟩, ⟨by decide, ClO.fN _ _ _ _⟩, trivial⟩⟩
      show LeO _ (.mapN (delE (fE ((curL L y.seen).map (·.1))) (.str p.1.1)) (delB (fE ((curL L y.seen).map (·.1))) (.str p.1.1) ((curL L y.seen).map (·.2))) c) (.mapN (fE ((curL L (p.2 :: y.seen)).map (·.1))) ((curL L (p.2 :: y.seen)).map (·.2)) c)
      have hko : OnceM ((curL L y.seen).map (·.1)) := once_map ok.keys
      rw [del_fE, delM_cur hko, delB_cur hko, cur_zero ok hpL hz]
      exact LeO.refl _ _
    · have hz : p.1.2 ≠ 0 := by simpa using hz
      (conv => arg 4; whnf); repeat (refine ⟨rfl, ?_⟩; conv => arg 4; whnf)
      refine ⟨y.step hnL hn, by show L.length - (y.seen.length + 1) < L.length - y.seen.length; have := y.lt hnL hn; omega, WkG.of rfl rfl ⟨Le.refl _ _, Le.refl _ _, Le.refl _ _, trivial⟩ ⟨⟨_, rfl, LeO.refl _ _⟩, ⟨_, rfl, ?_⟩, trivial⟩ ⟨rfl, rfl, rfl, trivial⟩ ⟨⟨by decide, rfl⟩, ⟨by decide, ClO.fN _ _ _ _⟩, trivial⟩⟩
      show LeO _ (.mapN (fE ((curL L y.seen).map (·.1))) ((curL L y.seen).map (·.2)) c) (.mapN (fE ((curL L (p.2 :: y.seen)).map (·.1))) ((curL L (p.2 :: y.seen)).map (·.2)) c)
      rw [cur_keep ok hpL hz]
      exact LeO.refl _ _
  · (conv => arg 4; whnf); repeat (refine ⟨rfl, ?_⟩; conv => arg 4; whnf)
    refine fin_exit ?_
    show holds _ _ _ _
    conv => arg 4; whnf
    refine ⟨by decide, Le.refl _ _, ⟨⟨_, rfl, ?_⟩, trivial⟩, (Cl.tup ClL.nil) _, ⟨⟨by decide, ClO.fE _ _⟩, trivial⟩⟩
    show fE ((curL L y.seen).map (·.1)) = fE (nzM l)
    rw [cur_all hall, hLa]
end Go.Proofs.Ytlifbhcmihnkpaa.Cm

namespace Go.Proofs.Ytlifbhcmihnkpaa.Cm
set_option maxRecDepth 100000
set_option maxHeartbeats 80000000
open Go.Sym

theorem idx_two (i j x : Nat) : idx x [i, j] = bif Nat.beq i x then some 0 else bif Nat.beq j x then some 1 else none := by
  unfold idx
  cases Nat.beq i x with
  | true => rfl
  | false =>
    unfold idx
    cases Nat.beq j x with
    | true => rfl
    | false => rfl
theorem keepH_two {nx i j : Nat} {o0 o1 q0 q1 : AObj} {h0 : Heap} (g0 : get h0 0 = some o0) (g1 : get h0 1 = some o1) (hij : Nat.beq i j = false)
    (e0 : renO (rho nx [i, j]) o0 = q0) (e1 : renO (rho nx [i, j]) o1 = q1) : ∀ h : Heap, keepH nx [i, j] h0 h = updA (updA h i q0) j q1
  | [] => rfl
  | (x, o) :: r => by
    rw [keepH_cons, keepH_two g0 g1 hij e0 e1 r, idx_two, updA_cons]
    cases hx : Nat.beq i x with
    | true =>
      have := Nat.eq_of_beq_eq_true hx
      subst this
      simp only [cond_true]
      rw [updA_cons, beq_no hij, g0]
      show (i, renO _ o0) :: _ = _
      rw [e0]
      rfl
    | false =>
      simp only [cond_false]
      rw [updA_cons]
      cases hy : Nat.beq j x with
      | true =>
        have := Nat.eq_of_beq_eq_true hy
        subst this
        simp only [cond_true]
        rw [g1]
        show (j, renO _ o1) :: _ = _
        rw [e1]
      | false => simp only [cond_false]
theorem callTwo {P : Program} {Q : AExit → St → Prop} {K : AV → Heap → Nat → Prop} {g : FuncId} {args args0 : List AV} {h : Heap} {nx : Nat} {a1 : AV} {kk : AV → Heap → Nat → R} {o0 o1 : AObj} (i j : Nat)
    (c : CallOK P g args0 [(1, o1), (0, o0)] 2 (Out a1 [(1, o1), (0, o0)] 2)) (hok : okNames nx [i, j] = true) (hij : Nat.beq i j = false) (h0 : ClO o0) (h1 : ClO o1)
    (hi : get h i = some o0) (hj : get h j = some o1) (hargs : args = renL (rho nx [i, j]) args0) (ha : Cl a1)
    (hk : holds P Q K (withHeap (updA (updA h i o0) j o1) fun h => kk a1 h nx)) : holds P Q K (.call g args h nx kk) :=
  CallOK.frame (names := [i, j]) c hok ⟨⟨by simp, by rw [h1]; exact hj⟩, ⟨by simp, by rw [h0]; exact hi⟩, trivial⟩ hargs fun a0 h0' m' ⟨e1, e2, e3⟩ => by
    subst e1; subst e2; subst e3
    rw [ha]
    have : mergeH nx [i, j] h [(1, o1), (0, o0)] = updA (updA h i o0) j o1 := by
      show newH nx [i, j] (keepH nx [i, j] [(1, o1), (0, o0)] h) [(1, o1), (0, o0)] = _
      rw [keepH_two rfl rfl hij (h0 _) (h1 _)]
      rfl
    rw [this]
    rw [withHeap_eq] at hk
    exact hk

theorem keepH_one' {nx i : Nat} {o0 : AObj} {h0 : Heap} (g0 : get h0 0 = some o0) (hc : ClO o0) : ∀ h : Heap, keepH nx [i] h0 h = updA h i o0
  | [] => rfl
  | (j, x) :: r => by
    rw [keepH_cons, keepH_one' g0 hc r, updA_cons]
    unfold idx
    cases hj : Nat.beq i j with
    | true =>
      simp only [cond_true]
      rw [g0]
      show (j, renO _ o0) :: _ = _
      rw [hc]
    | false => rfl
theorem callCl {P : Program} {Q : AExit → St → Prop} {K : AV → Heap → Nat → Prop} {g : FuncId} {args args0 : List AV} {h : Heap} {nx : Nat} {kk : AV → Heap → Nat → R} {o0 o1 : AObj} (i : Nat)
    (c : CallOK P g args0 [(0, o0)] 1 (Out (.map 1) [(1, o1), (0, o0)] 2)) (hok : okNames nx [i] = true) (h0 : ClO o0) (h1 : ClO o1) (hi : get h i = some o0) (hargs : args = renL (rho nx [i]) args0)
    (hk : holds P Q K (withHeap ((nx, o1) :: updA h i o0) fun h => kk (.map nx) h (nx + 1))) : holds P Q K (.call g args h nx kk) :=
  CallOK.frame (names := [i]) c hok ⟨⟨by simp, by rw [h0]; exact hi⟩, trivial⟩ hargs fun a0 h0' m' ⟨e1, e2, e3⟩ => by
    subst e1; subst e2; subst e3
    have : mergeH nx [i] h [(1, o1), (0, o0)] = (nx, o1) :: updA h i o0 := by
      show (nx + 0, renO (rho nx [i]) o1) :: keepH nx [i] [(1, o1), (0, o0)] h = _
      rw [keepH_one' rfl h0, h1]
      rfl
    rw [this]
    rw [withHeap_eq] at hk
    exact hk

theorem sameZero {l : List (List UInt8 × Int)} (ho : OnceM l) : CallOK Try.prog 100 [.map 0] [(0, .map (fE l))] 1 (Out (.map 1) [(1, .map (fE (nzM l))), (0, .map (fE l))] 2) := by
  refine CallOK.fit (by decide) ?_
  refine callOK Try.call100 Try.func100 Try.ntmps100 rfl ?_
  conv => arg 4; whnf
  refine callCl 0 (mapsClone (es := fE l)) rfl (ClO.fE _) (ClO.fE _) rfl rfl ?_
  (conv => arg 4; whnf); repeat (refine ⟨rfl, ?_⟩; conv => arg 4; whnf)
  refine call1 1 (mapsDel ho) rfl rfl (ClO.fE _) (ClO.fE _) rfl (Cl.tup ClL.nil) ?_
  (conv => arg 4; whnf); repeat (refine ⟨rfl, ?_⟩; conv => arg 4; whnf)
  refine ⟨by decide, Le.refl _ _, ⟨⟨_, rfl, LeO.refl _ _⟩, ⟨_, rfl, LeO.refl _ _⟩, trivial⟩, rfl, ⟨⟨by decide, ClO.fE _ _⟩, ⟨by decide, ClO.fE _ _⟩, trivial⟩⟩
theorem cmSame {m m' : List (MK × Int)} {f f' : List (List UInt8 × Int)} (hf : OnceM f) (hf' : OnceM f') : CallOK Try.prog 54 [.ptr 2 0, .ptr 5 0] [(5, .cells [.map 3, .map 4]), (4, .map (fE f')), (3, .map (mE m')), (2, .cells [.map 0, .map 1]), (1, .map (fE f)), (0, .map (mE m))] 6 (Out (.bool (eqMp m m' && eqMp (nzM f) (nzM f'))) [(5, .cells [.map 3, .map 4]), (4, .map (fE f')), (3, .map (mE m')), (2, .cells [.map 0, .map 1]), (1, .map (fE f)), (0, .map (mE m))] 6) := by
  refine CallOK.fit (by decide) ?_
  refine callOK Try.call54 Try.func54 Try.ntmps54 rfl ?_
  conv => arg 4; whnf
  refine callTab 0 1 2 (cmNone (m := m) (f := f)) rfl rfl rfl rfl rfl rfl rfl rfl rfl ?_
  (conv => arg 4; whnf); repeat (refine ⟨rfl, ?_⟩; conv => arg 4; whnf)
  refine callTab 3 4 5 (cmNone (m := m') (f := f')) rfl rfl rfl rfl rfl rfl rfl rfl rfl ?_
  (conv => arg 4; whnf); repeat (refine ⟨rfl, ?_⟩; conv => arg 4; whnf)
  refine callTwo 0 3 (mapsEqM (a := m) (b := m')) rfl rfl (ClO.mE _) (ClO.mE _) rfl rfl rfl (Cl.bool _) ?_
  (conv => arg 4; whnf); repeat (refine ⟨rfl, ?_⟩; conv => arg 4; whnf)
  refine ⟨fun hb => ?_, fun hb => ?_⟩
  · (conv => arg 4; whnf); repeat (refine ⟨rfl, ?_⟩; conv => arg 4; whnf)
    refine callCl 1 (sameZero hf) rfl (ClO.fE _) (ClO.fE _) rfl rfl ?_
    (conv => arg 4; whnf); repeat (refine ⟨rfl, ?_⟩; conv => arg 4; whnf)
    refine callCl 4 (sameZero hf') rfl (ClO.fE _) (ClO.fE _) rfl rfl ?_
    (conv => arg 4; whnf); repeat (refine ⟨rfl, ?_⟩; conv => arg 4; whnf)
    refine callTwo 6 7 (mapsEqF (a := nzM f) (b := nzM f')) rfl rfl (ClO.fE _) (ClO.fE _) rfl rfl rfl (Cl.bool _) ?_
    (conv => arg 4; whnf); repeat (refine ⟨rfl, ?_⟩; conv => arg 4; whnf)
    rw [hb, Bool.true_and]
    refine ⟨by decide, Le.refl _ _, ⟨⟨_, rfl, LeO.refl _ _⟩, ⟨_, rfl, LeO.refl _ _⟩, ⟨_, rfl, LeO.refl _ _⟩, ⟨_, rfl, LeO.refl _ _⟩, ⟨_, rfl, LeO.refl _ _⟩, ⟨_, rfl, LeO.refl _ _⟩, trivial⟩, (Cl.bool _) _, ⟨⟨by decide, rfl⟩, ⟨by decide, ClO.fE _ _⟩, ⟨by decide, ClO.mE _ _⟩, ⟨by decide, rfl⟩, ⟨by decide, ClO.fE _ _⟩, ⟨by decide, ClO.mE _ _⟩, trivial⟩⟩
  · (conv => arg 4; whnf); repeat (refine ⟨rfl, ?_⟩; conv => arg 4; whnf)
    rw [hb, Bool.false_and]
    refine ⟨by decide, Le.bl, ⟨⟨_, rfl, LeO.refl _ _⟩, ⟨_, rfl, LeO.refl _ _⟩, ⟨_, rfl, LeO.refl _ _⟩, ⟨_, rfl, LeO.refl _ _⟩, ⟨_, rfl, LeO.refl _ _⟩, ⟨_, rfl, LeO.refl _ _⟩, trivial⟩, (Cl.bool _) _, ⟨⟨by decide, rfl⟩, ⟨by decide, ClO.fE _ _⟩, ⟨by decide, ClO.mE _ _⟩, ⟨by decide, rfl⟩, ⟨by decide, ClO.fE _ _⟩, ⟨by decide, ClO.mE _ _⟩, trivial⟩⟩
end Go.Proofs.Ytlifbhcmihnkpaa.Cm

namespace Go.Proofs.Ytlifbhcmihnkpaa
set_option maxRecDepth 100000
set_option maxHeartbeats 80000000
open Go.Sym

structure FxX where
  v : Int
  r : List UInt8
  e : Int
structure ByX where
  v : List UInt8
  r : List UInt8
  e : Int
abbrev RO (r : List UInt8) (e : Int) : AObj := .cells [.sl .none 0 (u8s r), .int .i64 e]
theorem ClO.RO (r : List UInt8) (e : Int) : ClO (RO r e) := ClO.cells (ClL.cons (Cl.bs _) (ClL.cons (Cl.int _ _) ClL.nil))

theorem fixedR_suf (b : List UInt8) (e size : Int) : (fixedR b e size).2.1 <:+ b := by
  unfold fixedR
  split
  · exact List.suffix_refl _
  · split
    · exact List.suffix_refl _
    · exact List.drop_suffix _ _
theorem numR_suf (b : List UInt8) (e : Int) : (numR b e).2.1 <:+ b := by
  unfold numR
  split
  · exact List.suffix_refl _
  · split
    · exact List.drop_suffix _ _
    · exact List.suffix_refl _
theorem bytesR_suf (b : List UInt8) (e most : Int) : (bytesR b e most).2.1 <:+ b := by
  unfold bytesR
  split
  · exact List.suffix_refl _
  · split
    · split
      · exact List.suffix_refl _
      · split
        · exact List.suffix_refl _
        · exact (List.drop_suffix _ _).trans (List.drop_suffix _ _)
    · exact List.suffix_refl _
theorem bytesR_len (b : List UInt8) (e most : Int) : (bytesR b e most).1.length ≤ b.length := by
  unfold bytesR
  split
  · simp
  · split
    · split
      · simp
      · split
        · simp
        · simp; omega
    · simp

theorem rFixedE {b : List UInt8} {e size : Int} (hs : I64 size) (hb : b.length ≤ 100000000000000) : CallOK Try.prog 27 [.ptr 0 0, .int .i64 size] (RH b e) 1
    (fun a h m => ∃ x : FxX, (fixedR b e size = (x.v, x.r, x.e) ∧ x.r <:+ b) ∧ Out (.int .i64 x.v) [(0, RO x.r x.e)] 1 a h m) :=
  (rFixed hs hb).mono fun _ _ _ h => ⟨⟨_, _, _⟩, ⟨rfl, fixedR_suf b e size⟩, h⟩
theorem rNumE {b : List UInt8} {e : Int} (hb : b.length ≤ 100000000000000) : CallOK Try.prog 29 [.ptr 0 0] (RH b e) 1
    (fun a h m => ∃ x : FxX, (numR b e = (x.v, x.r, x.e) ∧ x.r <:+ b) ∧ Out (.int .i64 x.v) [(0, RO x.r x.e)] 1 a h m) :=
  (rNum hb).mono fun _ _ _ h => ⟨⟨_, _, _⟩, ⟨rfl, numR_suf b e⟩, h⟩
theorem rBytesE {b : List UInt8} {e most : Int} (hb : b.length ≤ 100000000000000) : CallOK Try.prog 31 [.ptr 0 0, .int .i64 most] (RH b e) 1
    (fun a h m => ∃ x : ByX, (bytesR b e most = (x.v, x.r, x.e) ∧ x.r <:+ b ∧ x.v.length ≤ b.length) ∧ Out (.sl .none 0 (u8s x.v)) [(0, RO x.r x.e)] 1 a h m) :=
  (rBytes hb).mono fun _ _ _ h => ⟨⟨_, _, _⟩, ⟨rfl, bytesR_suf b e most, bytesR_len b e most⟩, h⟩
end Go.Proofs.Ytlifbhcmihnkpaa

namespace Go.Proofs.Ytlifbhcmihnkpaa.Cm
set_option maxRecDepth 100000
set_option maxHeartbeats 80000000
open Go.Sym

theorem rTxt {s r : List UInt8} (hs : s.length ≤ 20) (hr : r.length ≤ 100000) : CallOK Try.prog 32 [.ptr 0 0, .int .i64 20] [(0, RO (lenB s ++ r) 0)] 1 (Out (.str s) [(0, RO r 0)] 1) := by
  have hp := put_len (n := (s.length : Int)) (by unfold I64; omega)
  have h := rText (b := lenB s ++ r) (e := 0) (most := 20) (by simp only [lenB, List.length_append]; omega)
  have hb : bytesR (lenB s ++ r) 0 20 = (s, r, 0) := bytesR_put (by omega) (by omega)
  rw [hb] at h
  exact h
theorem rNm {n : Int} (hn : I64 n) : CallOK Try.prog 29 [.ptr 0 0] [(0, RO (put n) 0)] 1 (Out (.int .i64 n) [(0, RO [] 0)] 1) := by
  have hp := put_len hn
  have h := rNum (b := put n) (e := 0) (by omega)
  have hb : numR (put n) 0 = (n, [], 0) := by have := numR_put hn []; rwa [List.append_nil] at this
  rw [hb] at h
  exact h

theorem cmValNo {r : Rec} (h : r.hv = false) : CallOK Try.prog 98 [r.av] [] 0 (Out (.tup [.int .i64 0, .bool true]) [] 0) := by
  refine CallOK.fit (by decide) ?_
  refine callOK Try.call98 Try.func98 Try.ntmps98 rfl ?_
  conv => arg 4; whnf
  refine ⟨fun _ => ?_, fun h' => absurd h' (by rw [h]; decide)⟩
  (conv => arg 4; whnf); repeat (refine ⟨rfl, ?_⟩; conv => arg 4; whnf)
  exact ⟨by decide, by (repeat' (first | with_reducible exact Le.refl _ _ | exact Le.bl | exact Le.lb | exact Le.nils | exact Le.nilsFull | exact Le.none | exact LeL.nil _ | refine LeL.cons ?_ ?_ | refine Le.tup ?_ | refine Le.agg ?_ | exact Le.refl _ _ | exact LeL.refl _ _)), trivial, (by (repeat' (first | with_reducible assumption | exact ClL.nil | exact Cl.int _ _ | exact Cl.bool _ | exact Cl.bl _ | exact Cl.bs _ | exact Cl.str _ | exact Cl.nils | exact Cl.nilp | exact Cl.rec _ | exact Cl.bat _ | exact Cl.recsV _ | exact Cl.strsV _ | exact Cl.intsV _ | exact Cl.req _ | exact Cl.rsp _ | exact Cl.reqA _ | exact Cl.rspA _ | exact Cl.batsV _ | exact Cl.prsV _ | exact Cl.atsV _ | exact Cl.entA _ _ | exact Cl.ent _ | exact Cl.rr _ _ | exact Cl.foundA _ | exact Cl.getB _ | exact Cl.encA _ | exact Cl.firstA _ | refine ClL.cons ?_ ?_ | refine Cl.tup ?_ | refine Cl.agg ?_ | exact ClO.RO _ _)) : Cl _) _, trivial⟩
theorem cmVal {r : Rec} {n : Int} (h : r.hv = true) (hv : r.val = put n) (hn : I64 n) : CallOK Try.prog 98 [r.av] [] 0 (Out (.tup [.int .i64 n, .bool true]) [] 0) := by
  have hp := put_len hn
  refine CallOK.fit (by decide) ?_
  refine callOK Try.call98 Try.func98 Try.ntmps98 rfl ?_
  conv => arg 4; whnf
  refine ⟨fun h' => absurd h' (by rw [h]; decide), fun _ => ?_⟩
  (conv => arg 4; whnf); repeat (refine ⟨rfl, ?_⟩; conv => arg 4; whnf)
  refine holds_args (args' := [bs (put n)]) ⟨Le.of_eq (congrArg bs hv), trivial⟩ ?_
  refine callNew (newReader (b := put n) (by omega)) (ClL.cons (Cl.bs _) ClL.nil) (ClO.RO _ _) ?_
  (conv => arg 4; whnf); repeat (refine ⟨rfl, ?_⟩; conv => arg 4; whnf)
  refine call1 1 (rNm hn) rfl rfl (ClO.RO _ _) (ClO.RO _ _) rfl (Cl.int _ _) ?_
  (conv => arg 4; whnf); repeat (refine ⟨rfl, ?_⟩; conv => arg 4; whnf)
  refine call1 1 rErr rfl rfl (ClO.RO _ _) (ClO.RO _ _) rfl (Cl.int _ _) ?_
  (conv => arg 4; whnf); repeat (refine ⟨rfl, ?_⟩; conv => arg 4; whnf)
  refine ⟨fun _ => ?_, fun h => absurd h (by first | (simp; done) | (simp [u8s]; done))⟩
  conv => arg 4; whnf
  refine call1 1 rLeft rfl rfl (ClO.RO _ _) (ClO.RO _ _) rfl (Cl.int _ _) ?_
  (conv => arg 4; whnf); repeat (refine ⟨rfl, ?_⟩; conv => arg 4; whnf)
  exact ⟨by decide, by (repeat' (first | with_reducible exact Le.refl _ _ | exact Le.bl | exact Le.lb | exact Le.nils | exact Le.nilsFull | exact Le.none | exact LeL.nil _ | refine LeL.cons ?_ ?_ | refine Le.tup ?_ | refine Le.agg ?_ | exact Le.refl _ _ | exact LeL.refl _ _)), trivial, (by (repeat' (first | with_reducible assumption | exact ClL.nil | exact Cl.int _ _ | exact Cl.bool _ | exact Cl.bl _ | exact Cl.bs _ | exact Cl.str _ | exact Cl.nils | exact Cl.nilp | exact Cl.rec _ | exact Cl.bat _ | exact Cl.recsV _ | exact Cl.strsV _ | exact Cl.intsV _ | exact Cl.req _ | exact Cl.rsp _ | exact Cl.reqA _ | exact Cl.rspA _ | exact Cl.batsV _ | exact Cl.prsV _ | exact Cl.atsV _ | exact Cl.entA _ _ | exact Cl.ent _ | exact Cl.rr _ _ | exact Cl.foundA _ | exact Cl.getB _ | exact Cl.encA _ | exact Cl.firstA _ | refine ClL.cons ?_ ?_ | refine Cl.tup ?_ | refine Cl.agg ?_ | exact ClO.RO _ _)) : Cl _) _, trivial⟩
theorem cmPutOk {m : List (MK × Int)} {f : List (List UInt8 × Int)} {e : Ent} (h : mayE e = true) : CallOK Try.prog 47 [.ptr 2 0, e.av] (TH m f) 3 (Out (.int .i64 0) (TH (setM m (e.g, e.t, e.p) e.o) f) 3) := by
  have hn := mayE_nums h
  have c := cmPut (m := m) (f := f) (e := e) (by omega) (by omega)
  simp only [h, if_true] at c
  exact c
theorem cmGenOk {m : List (MK × Int)} {f : List (List UInt8 × Int)} {g : List UInt8} {n : Int} (h : mayG g n = true) : CallOK Try.prog 48 [.ptr 2 0, .str g, .int .i64 n] (TH m f) 3 (Out (.int .i64 0) (TH m (setM f g (max ((findM f g).getD 0) n))) 3) := by
  have hn := mayG_nums h
  have c := cmGen (m := m) (f := f) (g := g) (n := n) (by omega)
  simp only [h, if_true] at c
  exact c

theorem applyO {m : List (MK × Int)} {f : List (List UInt8 × Int)} {r : Rec} {e : Ent} {hv : Bool} (hk : r.hk = true) (hkey : r.key = keyO e) (hhv : r.hv = hv) (hval : hv = true → r.val = put e.o ∧ mayE e = true) (hpl : mayE ⟨e.g, e.t, e.p, 0⟩ = true) : CallOK Try.prog 49 [.ptr 2 0, r.av] (TH m f) 3 (Out (.int .i64 0) (TH (if hv then setM m (e.g, e.t, e.p) e.o else delM m (e.g, e.t, e.p)) f) 3) := by
  obtain ⟨i1, -, l1, l2⟩ := mayE_nums hpl
  have i1 : I64 e.p := i1
  have l1 : e.g.length ≤ 20 := l1
  have l2 : e.t.length ≤ 20 := l2
  have p1 := put_len i1
  have p2 := put_len (n := (e.g.length : Int)) (by unfold I64; omega)
  have p3 := put_len (n := (e.t.length : Int)) (by unfold I64; omega)
  have e1 : keyO e = lenB [111] ++ (lenB e.g ++ (lenB e.t ++ put e.p)) := by simp only [keyO, List.append_assoc]
  have hkl : (keyO e).length ≤ 1000 := by
    have q1 : (put ([111] : List UInt8).length).length ≤ 10 := put_len (by unfold I64; decide)
    simp only [keyO, lenB, List.length_append, List.length_cons, List.length_nil] at *
    omega
  refine CallOK.fit (by decide) ?_
  refine callOK Try.call49 Try.func49 Try.ntmps49 rfl ?_
  conv => arg 4; whnf
  refine callTab 0 1 2 (cmNone (m := m) (f := f)) rfl rfl rfl rfl rfl rfl rfl rfl rfl ?_
  (conv => arg 4; whnf); repeat (refine ⟨rfl, ?_⟩; conv => arg 4; whnf)
  refine holds_args (args' := [bs (lenB [111] ++ (lenB e.g ++ (lenB e.t ++ put e.p)))]) ⟨Le.of_eq (congrArg bs (by rw [hkey, e1])), trivial⟩ ?_
  refine callNew (newReader (b := lenB [111] ++ (lenB e.g ++ (lenB e.t ++ put e.p))) (by rw [← e1]; omega)) (ClL.cons (Cl.bs _) ClL.nil) (ClO.RO _ _) ?_
  (conv => arg 4; whnf); repeat (refine ⟨rfl, ?_⟩; conv => arg 4; whnf)
  refine call1 4 (rTxt (s := [111]) (r := lenB e.g ++ (lenB e.t ++ put e.p)) (by decide) (by rw [e1] at hkl; simp only [List.length_append] at hkl ⊢; omega)) rfl rfl (ClO.RO _ _) (ClO.RO _ _) rfl (Cl.str _) ?_
  (conv => arg 4; whnf); repeat (refine ⟨rfl, ?_⟩; conv => arg 4; whnf)
  refine call1 4 (rTxt (s := e.g) (r := lenB e.t ++ put e.p) l1 (by rw [e1] at hkl; simp only [List.length_append] at hkl ⊢; omega)) rfl rfl (ClO.RO _ _) (ClO.RO _ _) rfl (Cl.str _) ?_
  (conv => arg 4; whnf); repeat (refine ⟨rfl, ?_⟩; conv => arg 4; whnf)
  refine ⟨fun _ => ?_, fun h => absurd h (by first | (simp; done) | (simp [u8s]; done))⟩
  conv => arg 4; whnf
  refine call1 4 (rTxt (s := e.t) (r := put e.p) l2 (by omega)) rfl rfl (ClO.RO _ _) (ClO.RO _ _) rfl (Cl.str _) ?_
  (conv => arg 4; whnf); repeat (refine ⟨rfl, ?_⟩; conv => arg 4; whnf)
  refine call1 4 (rNm i1) rfl rfl (ClO.RO _ _) (ClO.RO _ _) rfl (Cl.int _ _) ?_
  (conv => arg 4; whnf); repeat (refine ⟨rfl, ?_⟩; conv => arg 4; whnf)
  cases hv
  · refine call0 (cmValNo hhv) (by (repeat' (first | with_reducible assumption | exact ClL.nil | exact Cl.int _ _ | exact Cl.bool _ | exact Cl.bl _ | exact Cl.bs _ | exact Cl.str _ | exact Cl.nils | exact Cl.nilp | exact Cl.rec _ | exact Cl.bat _ | exact Cl.recsV _ | exact Cl.strsV _ | exact Cl.intsV _ | exact Cl.req _ | exact Cl.rsp _ | exact Cl.reqA _ | exact Cl.rspA _ | exact Cl.batsV _ | exact Cl.prsV _ | exact Cl.atsV _ | exact Cl.entA _ _ | exact Cl.ent _ | exact Cl.rr _ _ | exact Cl.foundA _ | exact Cl.getB _ | exact Cl.encA _ | exact Cl.firstA _ | refine ClL.cons ?_ ?_ | refine Cl.tup ?_ | refine Cl.agg ?_ | exact ClO.RO _ _))) (by (repeat' (first | with_reducible assumption | exact ClL.nil | exact Cl.int _ _ | exact Cl.bool _ | exact Cl.bl _ | exact Cl.bs _ | exact Cl.str _ | exact Cl.nils | exact Cl.nilp | exact Cl.rec _ | exact Cl.bat _ | exact Cl.recsV _ | exact Cl.strsV _ | exact Cl.intsV _ | exact Cl.req _ | exact Cl.rsp _ | exact Cl.reqA _ | exact Cl.rspA _ | exact Cl.batsV _ | exact Cl.prsV _ | exact Cl.atsV _ | exact Cl.entA _ _ | exact Cl.ent _ | exact Cl.rr _ _ | exact Cl.foundA _ | exact Cl.getB _ | exact Cl.encA _ | exact Cl.firstA _ | refine ClL.cons ?_ ?_ | refine Cl.tup ?_ | refine Cl.agg ?_ | exact ClO.RO _ _))) ?_
    (conv => arg 4; whnf); repeat (refine ⟨rfl, ?_⟩; conv => arg 4; whnf)
    refine ⟨fun h' => absurd h' (by simp [hk]), fun _ => ?_⟩
    (conv => arg 4; whnf); repeat (refine ⟨rfl, ?_⟩; conv => arg 4; whnf)
    refine call1 4 rErr rfl rfl (ClO.RO _ _) (ClO.RO _ _) rfl (Cl.int _ _) ?_
    (conv => arg 4; whnf); repeat (refine ⟨rfl, ?_⟩; conv => arg 4; whnf)
    refine ⟨fun h => absurd h (by first | (simp; done) | (simp [u8s]; done)), fun _ => ?_⟩
    conv => arg 4; whnf
    refine call1 4 rLeft rfl rfl (ClO.RO _ _) (ClO.RO _ _) rfl (Cl.int _ _) ?_
    (conv => arg 4; whnf); repeat (refine ⟨rfl, ?_⟩; conv => arg 4; whnf)
    refine ⟨fun h => absurd h (by first | (simp; done) | (simp [u8s]; done)), fun _ => ?_⟩
    conv => arg 4; whnf
    refine ⟨fun _ => ?_, fun h => absurd h (by first | (simp; done) | (simp [u8s]; done))⟩
    conv => arg 4; whnf
    refine holds_args (args' := [(⟨e.g, e.t, e.p, 0⟩ : Ent).av]) ⟨Le.refl _ _, trivial⟩ ?_
    refine call0 (cmMay (e := ⟨e.g, e.t, e.p, 0⟩) (by show e.g.length ≤ 1000000; omega) (by show e.t.length ≤ 1000000; omega)) (ClL.cons (Cl.ent _) ClL.nil) (by (repeat' (first | with_reducible assumption | exact ClL.nil | exact Cl.int _ _ | exact Cl.bool _ | exact Cl.bl _ | exact Cl.bs _ | exact Cl.str _ | exact Cl.nils | exact Cl.nilp | exact Cl.rec _ | exact Cl.bat _ | exact Cl.recsV _ | exact Cl.strsV _ | exact Cl.intsV _ | exact Cl.req _ | exact Cl.rsp _ | exact Cl.reqA _ | exact Cl.rspA _ | exact Cl.batsV _ | exact Cl.prsV _ | exact Cl.atsV _ | exact Cl.entA _ _ | exact Cl.ent _ | exact Cl.rr _ _ | exact Cl.foundA _ | exact Cl.getB _ | exact Cl.encA _ | exact Cl.firstA _ | refine ClL.cons ?_ ?_ | refine Cl.tup ?_ | refine Cl.agg ?_ | exact ClO.RO _ _))) ?_
    (conv => arg 4; whnf); repeat (refine ⟨rfl, ?_⟩; conv => arg 4; whnf)
    refine ⟨fun h' => absurd h' (by rw [hpl, hhv]; decide), fun _ => ?_⟩
    (conv => arg 4; whnf); repeat (refine ⟨rfl, ?_⟩; conv => arg 4; whnf)
    refine ⟨fun _ => ?_, fun h => absurd h (by first | (simp; done) | (simp [u8s]; done))⟩
    conv => arg 4; whnf
    refine holds_args (args' := [(⟨e.g, e.t, e.p, 0⟩ : Ent).av]) ⟨Le.refl _ _, trivial⟩ ?_
    refine call0 (cmMay (e := ⟨e.g, e.t, e.p, 0⟩) (by show e.g.length ≤ 1000000; omega) (by show e.t.length ≤ 1000000; omega)) (ClL.cons (Cl.ent _) ClL.nil) (by (repeat' (first | with_reducible assumption | exact ClL.nil | exact Cl.int _ _ | exact Cl.bool _ | exact Cl.bl _ | exact Cl.bs _ | exact Cl.str _ | exact Cl.nils | exact Cl.nilp | exact Cl.rec _ | exact Cl.bat _ | exact Cl.recsV _ | exact Cl.strsV _ | exact Cl.intsV _ | exact Cl.req _ | exact Cl.rsp _ | exact Cl.reqA _ | exact Cl.rspA _ | exact Cl.batsV _ | exact Cl.prsV _ | exact Cl.atsV _ | exact Cl.entA _ _ | exact Cl.ent _ | exact Cl.rr _ _ | exact Cl.foundA _ | exact Cl.getB _ | exact Cl.encA _ | exact Cl.firstA _ | refine ClL.cons ?_ ?_ | refine Cl.tup ?_ | refine Cl.agg ?_ | exact ClO.RO _ _))) ?_
    (conv => arg 4; whnf); repeat (refine ⟨rfl, ?_⟩; conv => arg 4; whnf)
    refine ⟨fun _ => ?_, fun h' => absurd (hpl.symm.trans h') (by decide)⟩
    (conv => arg 4; whnf); repeat (refine ⟨rfl, ?_⟩; conv => arg 4; whnf)
    refine callTab 0 1 2 (cmDrop (m := m) (f := f) (e := ⟨e.g, e.t, e.p, 0⟩)) rfl rfl rfl rfl rfl rfl rfl rfl rfl ?_
    (conv => arg 4; whnf); repeat (refine ⟨rfl, ?_⟩; conv => arg 4; whnf)
    exact ⟨by decide, Le.refl _ _, ⟨⟨_, rfl, LeO.refl _ _⟩, ⟨_, rfl, LeO.refl _ _⟩, ⟨_, rfl, LeO.refl _ _⟩, trivial⟩, (by (repeat' (first | with_reducible assumption | exact ClL.nil | exact Cl.int _ _ | exact Cl.bool _ | exact Cl.bl _ | exact Cl.bs _ | exact Cl.str _ | exact Cl.nils | exact Cl.nilp | exact Cl.rec _ | exact Cl.bat _ | exact Cl.recsV _ | exact Cl.strsV _ | exact Cl.intsV _ | exact Cl.req _ | exact Cl.rsp _ | exact Cl.reqA _ | exact Cl.rspA _ | exact Cl.batsV _ | exact Cl.prsV _ | exact Cl.atsV _ | exact Cl.entA _ _ | exact Cl.ent _ | exact Cl.rr _ _ | exact Cl.foundA _ | exact Cl.getB _ | exact Cl.encA _ | exact Cl.firstA _ | refine ClL.cons ?_ ?_ | refine Cl.tup ?_ | refine Cl.agg ?_ | exact ClO.RO _ _)) : Cl _) _, ⟨⟨by decide, rfl⟩, ⟨by decide, ClO.fE _ _⟩, ⟨by decide, ClO.mE _ _⟩, trivial⟩⟩
  · refine call0 (cmVal hhv (hval rfl).1 (mayE_nums (hval rfl).2).2.1) (by (repeat' (first | with_reducible assumption | exact ClL.nil | exact Cl.int _ _ | exact Cl.bool _ | exact Cl.bl _ | exact Cl.bs _ | exact Cl.str _ | exact Cl.nils | exact Cl.nilp | exact Cl.rec _ | exact Cl.bat _ | exact Cl.recsV _ | exact Cl.strsV _ | exact Cl.intsV _ | exact Cl.req _ | exact Cl.rsp _ | exact Cl.reqA _ | exact Cl.rspA _ | exact Cl.batsV _ | exact Cl.prsV _ | exact Cl.atsV _ | exact Cl.entA _ _ | exact Cl.ent _ | exact Cl.rr _ _ | exact Cl.foundA _ | exact Cl.getB _ | exact Cl.encA _ | exact Cl.firstA _ | refine ClL.cons ?_ ?_ | refine Cl.tup ?_ | refine Cl.agg ?_ | exact ClO.RO _ _))) (by (repeat' (first | with_reducible assumption | exact ClL.nil | exact Cl.int _ _ | exact Cl.bool _ | exact Cl.bl _ | exact Cl.bs _ | exact Cl.str _ | exact Cl.nils | exact Cl.nilp | exact Cl.rec _ | exact Cl.bat _ | exact Cl.recsV _ | exact Cl.strsV _ | exact Cl.intsV _ | exact Cl.req _ | exact Cl.rsp _ | exact Cl.reqA _ | exact Cl.rspA _ | exact Cl.batsV _ | exact Cl.prsV _ | exact Cl.atsV _ | exact Cl.entA _ _ | exact Cl.ent _ | exact Cl.rr _ _ | exact Cl.foundA _ | exact Cl.getB _ | exact Cl.encA _ | exact Cl.firstA _ | refine ClL.cons ?_ ?_ | refine Cl.tup ?_ | refine Cl.agg ?_ | exact ClO.RO _ _))) ?_
    (conv => arg 4; whnf); repeat (refine ⟨rfl, ?_⟩; conv => arg 4; whnf)
    refine ⟨fun h' => absurd h' (by simp [hk]), fun _ => ?_⟩
    (conv => arg 4; whnf); repeat (refine ⟨rfl, ?_⟩; conv => arg 4; whnf)
    refine call1 4 rErr rfl rfl (ClO.RO _ _) (ClO.RO _ _) rfl (Cl.int _ _) ?_
    (conv => arg 4; whnf); repeat (refine ⟨rfl, ?_⟩; conv => arg 4; whnf)
    refine ⟨fun h => absurd h (by first | (simp; done) | (simp [u8s]; done)), fun _ => ?_⟩
    conv => arg 4; whnf
    refine call1 4 rLeft rfl rfl (ClO.RO _ _) (ClO.RO _ _) rfl (Cl.int _ _) ?_
    (conv => arg 4; whnf); repeat (refine ⟨rfl, ?_⟩; conv => arg 4; whnf)
    refine ⟨fun h => absurd h (by first | (simp; done) | (simp [u8s]; done)), fun _ => ?_⟩
    conv => arg 4; whnf
    refine ⟨fun _ => ?_, fun h => absurd h (by first | (simp; done) | (simp [u8s]; done))⟩
    conv => arg 4; whnf
    refine holds_args (args' := [(⟨e.g, e.t, e.p, e.o⟩ : Ent).av]) ⟨Le.refl _ _, trivial⟩ ?_
    refine call0 (cmMay (e := ⟨e.g, e.t, e.p, e.o⟩) (by show e.g.length ≤ 1000000; omega) (by show e.t.length ≤ 1000000; omega)) (ClL.cons (Cl.ent _) ClL.nil) (by (repeat' (first | with_reducible assumption | exact ClL.nil | exact Cl.int _ _ | exact Cl.bool _ | exact Cl.bl _ | exact Cl.bs _ | exact Cl.str _ | exact Cl.nils | exact Cl.nilp | exact Cl.rec _ | exact Cl.bat _ | exact Cl.recsV _ | exact Cl.strsV _ | exact Cl.intsV _ | exact Cl.req _ | exact Cl.rsp _ | exact Cl.reqA _ | exact Cl.rspA _ | exact Cl.batsV _ | exact Cl.prsV _ | exact Cl.atsV _ | exact Cl.entA _ _ | exact Cl.ent _ | exact Cl.rr _ _ | exact Cl.foundA _ | exact Cl.getB _ | exact Cl.encA _ | exact Cl.firstA _ | refine ClL.cons ?_ ?_ | refine Cl.tup ?_ | refine Cl.agg ?_ | exact ClO.RO _ _))) ?_
    (conv => arg 4; whnf); repeat (refine ⟨rfl, ?_⟩; conv => arg 4; whnf)
    refine ⟨fun _ => ?_, fun h' => absurd h' (by rw [show mayE ⟨e.g, e.t, e.p, e.o⟩ = true from (hval rfl).2, hhv]; decide)⟩
    (conv => arg 4; whnf); repeat (refine ⟨rfl, ?_⟩; conv => arg 4; whnf)
    refine callTab 0 1 2 (cmPutOk (m := m) (f := f) (hval rfl).2) rfl rfl rfl rfl rfl rfl rfl rfl rfl ?_
    (conv => arg 4; whnf); repeat (refine ⟨rfl, ?_⟩; conv => arg 4; whnf)
    exact ⟨by decide, Le.refl _ _, ⟨⟨_, rfl, LeO.refl _ _⟩, ⟨_, rfl, LeO.refl _ _⟩, ⟨_, rfl, LeO.refl _ _⟩, trivial⟩, (by (repeat' (first | with_reducible assumption | exact ClL.nil | exact Cl.int _ _ | exact Cl.bool _ | exact Cl.bl _ | exact Cl.bs _ | exact Cl.str _ | exact Cl.nils | exact Cl.nilp | exact Cl.rec _ | exact Cl.bat _ | exact Cl.recsV _ | exact Cl.strsV _ | exact Cl.intsV _ | exact Cl.req _ | exact Cl.rsp _ | exact Cl.reqA _ | exact Cl.rspA _ | exact Cl.batsV _ | exact Cl.prsV _ | exact Cl.atsV _ | exact Cl.entA _ _ | exact Cl.ent _ | exact Cl.rr _ _ | exact Cl.foundA _ | exact Cl.getB _ | exact Cl.encA _ | exact Cl.firstA _ | refine ClL.cons ?_ ?_ | refine Cl.tup ?_ | refine Cl.agg ?_ | exact ClO.RO _ _)) : Cl _) _, ⟨⟨by decide, rfl⟩, ⟨by decide, ClO.fE _ _⟩, ⟨by decide, ClO.mE _ _⟩, trivial⟩⟩

theorem applyG {m : List (MK × Int)} {f : List (List UInt8 × Int)} {r : Rec} {g : List UInt8} {n : Int} {hv : Bool} (hk : r.hk = true) (hkey : r.key = keyG g) (hhv : r.hv = hv) (hval : hv = true → r.val = put n ∧ mayG g n = true) (hpl : mayG g 0 = true) : CallOK Try.prog 49 [.ptr 2 0, r.av] (TH m f) 3 (Out (.int .i64 0) (TH m (if hv then setM f g (max ((findM f g).getD 0) n) else delM f g)) 3) := by
  obtain ⟨-, l1⟩ := mayG_nums hpl
  have p2 := put_len (n := (g.length : Int)) (by unfold I64; omega)
  have e1 : keyG g = lenB [103] ++ (lenB g ++ []) := by simp only [keyG, List.append_nil]
  have hkl : (keyG g).length ≤ 1000 := by
    have q1 : (put ([103] : List UInt8).length).length ≤ 10 := put_len (by unfold I64; decide)
    simp only [keyG, lenB, List.length_append, List.length_cons, List.length_nil] at *
    omega
  refine CallOK.fit (by decide) ?_
  refine callOK Try.call49 Try.func49 Try.ntmps49 rfl ?_
  conv => arg 4; whnf
  refine callTab 0 1 2 (cmNone (m := m) (f := f)) rfl rfl rfl rfl rfl rfl rfl rfl rfl ?_
  (conv => arg 4; whnf); repeat (refine ⟨rfl, ?_⟩; conv => arg 4; whnf)
  refine holds_args (args' := [bs (lenB [103] ++ (lenB g ++ []))]) ⟨Le.of_eq (congrArg bs (by rw [hkey, e1])), trivial⟩ ?_
  refine callNew (newReader (b := lenB [103] ++ (lenB g ++ [])) (by rw [← e1]; omega)) (ClL.cons (Cl.bs _) ClL.nil) (ClO.RO _ _) ?_
  (conv => arg 4; whnf); repeat (refine ⟨rfl, ?_⟩; conv => arg 4; whnf)
  refine call1 4 (rTxt (s := [103]) (r := lenB g ++ []) (by decide) (by rw [e1] at hkl; simp only [List.length_append] at hkl ⊢; omega)) rfl rfl (ClO.RO _ _) (ClO.RO _ _) rfl (Cl.str _) ?_
  (conv => arg 4; whnf); repeat (refine ⟨rfl, ?_⟩; conv => arg 4; whnf)
  refine call1 4 (rTxt (s := g) (r := []) l1 (by simp)) rfl rfl (ClO.RO _ _) (ClO.RO _ _) rfl (Cl.str _) ?_
  (conv => arg 4; whnf); repeat (refine ⟨rfl, ?_⟩; conv => arg 4; whnf)
  refine ⟨fun h => absurd h (by first | (simp; done) | (simp [u8s]; done)), fun _ => ?_⟩
  conv => arg 4; whnf
  cases hv
  · refine call0 (cmValNo hhv) (by (repeat' (first | with_reducible assumption | exact ClL.nil | exact Cl.int _ _ | exact Cl.bool _ | exact Cl.bl _ | exact Cl.bs _ | exact Cl.str _ | exact Cl.nils | exact Cl.nilp | exact Cl.rec _ | exact Cl.bat _ | exact Cl.recsV _ | exact Cl.strsV _ | exact Cl.intsV _ | exact Cl.req _ | exact Cl.rsp _ | exact Cl.reqA _ | exact Cl.rspA _ | exact Cl.batsV _ | exact Cl.prsV _ | exact Cl.atsV _ | exact Cl.entA _ _ | exact Cl.ent _ | exact Cl.rr _ _ | exact Cl.foundA _ | exact Cl.getB _ | exact Cl.encA _ | exact Cl.firstA _ | refine ClL.cons ?_ ?_ | refine Cl.tup ?_ | refine Cl.agg ?_ | exact ClO.RO _ _))) (by (repeat' (first | with_reducible assumption | exact ClL.nil | exact Cl.int _ _ | exact Cl.bool _ | exact Cl.bl _ | exact Cl.bs _ | exact Cl.str _ | exact Cl.nils | exact Cl.nilp | exact Cl.rec _ | exact Cl.bat _ | exact Cl.recsV _ | exact Cl.strsV _ | exact Cl.intsV _ | exact Cl.req _ | exact Cl.rsp _ | exact Cl.reqA _ | exact Cl.rspA _ | exact Cl.batsV _ | exact Cl.prsV _ | exact Cl.atsV _ | exact Cl.entA _ _ | exact Cl.ent _ | exact Cl.rr _ _ | exact Cl.foundA _ | exact Cl.getB _ | exact Cl.encA _ | exact Cl.firstA _ | refine ClL.cons ?_ ?_ | refine Cl.tup ?_ | refine Cl.agg ?_ | exact ClO.RO _ _))) ?_
    (conv => arg 4; whnf); repeat (refine ⟨rfl, ?_⟩; conv => arg 4; whnf)
    refine ⟨fun h' => absurd h' (by simp [hk]), fun _ => ?_⟩
    (conv => arg 4; whnf); repeat (refine ⟨rfl, ?_⟩; conv => arg 4; whnf)
    refine call1 4 rErr rfl rfl (ClO.RO _ _) (ClO.RO _ _) rfl (Cl.int _ _) ?_
    (conv => arg 4; whnf); repeat (refine ⟨rfl, ?_⟩; conv => arg 4; whnf)
    refine ⟨fun h => absurd h (by first | (simp; done) | (simp [u8s]; done)), fun _ => ?_⟩
    conv => arg 4; whnf
    refine call1 4 rLeft rfl rfl (ClO.RO _ _) (ClO.RO _ _) rfl (Cl.int _ _) ?_
    (conv => arg 4; whnf); repeat (refine ⟨rfl, ?_⟩; conv => arg 4; whnf)
    refine ⟨fun h => absurd h (by first | (simp; done) | (simp [u8s]; done)), fun _ => ?_⟩
    conv => arg 4; whnf
    refine ⟨fun h => absurd h (by first | (simp; done) | (simp [u8s]; done)), fun _ => ?_⟩
    conv => arg 4; whnf
    refine ⟨fun h => absurd h (by first | (simp; done) | (simp [u8s]; done)), fun _ => ?_⟩
    conv => arg 4; whnf
    refine ⟨fun _ => ?_, fun h => absurd h (by first | (simp; done) | (simp [u8s]; done))⟩
    conv => arg 4; whnf
    refine call0 (cmMayGen (g := g) (n := 0) (by omega)) (by (repeat' (first | with_reducible assumption | exact ClL.nil | exact Cl.int _ _ | exact Cl.bool _ | exact Cl.bl _ | exact Cl.bs _ | exact Cl.str _ | exact Cl.nils | exact Cl.nilp | exact Cl.rec _ | exact Cl.bat _ | exact Cl.recsV _ | exact Cl.strsV _ | exact Cl.intsV _ | exact Cl.req _ | exact Cl.rsp _ | exact Cl.reqA _ | exact Cl.rspA _ | exact Cl.batsV _ | exact Cl.prsV _ | exact Cl.atsV _ | exact Cl.entA _ _ | exact Cl.ent _ | exact Cl.rr _ _ | exact Cl.foundA _ | exact Cl.getB _ | exact Cl.encA _ | exact Cl.firstA _ | refine ClL.cons ?_ ?_ | refine Cl.tup ?_ | refine Cl.agg ?_ | exact ClO.RO _ _))) (by (repeat' (first | with_reducible assumption | exact ClL.nil | exact Cl.int _ _ | exact Cl.bool _ | exact Cl.bl _ | exact Cl.bs _ | exact Cl.str _ | exact Cl.nils | exact Cl.nilp | exact Cl.rec _ | exact Cl.bat _ | exact Cl.recsV _ | exact Cl.strsV _ | exact Cl.intsV _ | exact Cl.req _ | exact Cl.rsp _ | exact Cl.reqA _ | exact Cl.rspA _ | exact Cl.batsV _ | exact Cl.prsV _ | exact Cl.atsV _ | exact Cl.entA _ _ | exact Cl.ent _ | exact Cl.rr _ _ | exact Cl.foundA _ | exact Cl.getB _ | exact Cl.encA _ | exact Cl.firstA _ | refine ClL.cons ?_ ?_ | refine Cl.tup ?_ | refine Cl.agg ?_ | exact ClO.RO _ _))) ?_
    (conv => arg 4; whnf); repeat (refine ⟨rfl, ?_⟩; conv => arg 4; whnf)
    refine ⟨fun h' => absurd h' (by rw [hpl, hhv]; decide), fun _ => ?_⟩
    (conv => arg 4; whnf); repeat (refine ⟨rfl, ?_⟩; conv => arg 4; whnf)
    refine ⟨fun _ => ?_, fun h => absurd h (by first | (simp; done) | (simp [u8s]; done))⟩
    conv => arg 4; whnf
    refine call0 (cmMayGen (g := g) (n := 0) (by omega)) (by (repeat' (first | with_reducible assumption | exact ClL.nil | exact Cl.int _ _ | exact Cl.bool _ | exact Cl.bl _ | exact Cl.bs _ | exact Cl.str _ | exact Cl.nils | exact Cl.nilp | exact Cl.rec _ | exact Cl.bat _ | exact Cl.recsV _ | exact Cl.strsV _ | exact Cl.intsV _ | exact Cl.req _ | exact Cl.rsp _ | exact Cl.reqA _ | exact Cl.rspA _ | exact Cl.batsV _ | exact Cl.prsV _ | exact Cl.atsV _ | exact Cl.entA _ _ | exact Cl.ent _ | exact Cl.rr _ _ | exact Cl.foundA _ | exact Cl.getB _ | exact Cl.encA _ | exact Cl.firstA _ | refine ClL.cons ?_ ?_ | refine Cl.tup ?_ | refine Cl.agg ?_ | exact ClO.RO _ _))) (by (repeat' (first | with_reducible assumption | exact ClL.nil | exact Cl.int _ _ | exact Cl.bool _ | exact Cl.bl _ | exact Cl.bs _ | exact Cl.str _ | exact Cl.nils | exact Cl.nilp | exact Cl.rec _ | exact Cl.bat _ | exact Cl.recsV _ | exact Cl.strsV _ | exact Cl.intsV _ | exact Cl.req _ | exact Cl.rsp _ | exact Cl.reqA _ | exact Cl.rspA _ | exact Cl.batsV _ | exact Cl.prsV _ | exact Cl.atsV _ | exact Cl.entA _ _ | exact Cl.ent _ | exact Cl.rr _ _ | exact Cl.foundA _ | exact Cl.getB _ | exact Cl.encA _ | exact Cl.firstA _ | refine ClL.cons ?_ ?_ | refine Cl.tup ?_ | refine Cl.agg ?_ | exact ClO.RO _ _))) ?_
    (conv => arg 4; whnf); repeat (refine ⟨rfl, ?_⟩; conv => arg 4; whnf)
    refine ⟨fun _ => ?_, fun h' => absurd (hpl.symm.trans h') (by decide)⟩
    (conv => arg 4; whnf); repeat (refine ⟨rfl, ?_⟩; conv => arg 4; whnf)
    refine ⟨askF f g, ?_⟩
    (conv => arg 4; whnf); repeat (refine ⟨rfl, ?_⟩; conv => arg 4; whnf)
    simp only [Bool.false_eq_true, if_false]
    exact ⟨by decide, Le.refl _ _, ⟨⟨_, rfl, LeO.refl _ _⟩, ⟨_, rfl, by rw [← del_fE]; exact LeO.refl _ _⟩, ⟨_, rfl, LeO.refl _ _⟩, trivial⟩, (by (repeat' (first | with_reducible assumption | exact ClL.nil | exact Cl.int _ _ | exact Cl.bool _ | exact Cl.bl _ | exact Cl.bs _ | exact Cl.str _ | exact Cl.nils | exact Cl.nilp | exact Cl.rec _ | exact Cl.bat _ | exact Cl.recsV _ | exact Cl.strsV _ | exact Cl.intsV _ | exact Cl.req _ | exact Cl.rsp _ | exact Cl.reqA _ | exact Cl.rspA _ | exact Cl.batsV _ | exact Cl.prsV _ | exact Cl.atsV _ | exact Cl.entA _ _ | exact Cl.ent _ | exact Cl.rr _ _ | exact Cl.foundA _ | exact Cl.getB _ | exact Cl.encA _ | exact Cl.firstA _ | refine ClL.cons ?_ ?_ | refine Cl.tup ?_ | refine Cl.agg ?_ | exact ClO.RO _ _)) : Cl _) _, ⟨⟨by decide, rfl⟩, ⟨by decide, ClO.fE _ _⟩, ⟨by decide, ClO.mE _ _⟩, trivial⟩⟩
  · refine call0 (cmVal hhv (hval rfl).1 (mayG_nums (hval rfl).2).1) (by (repeat' (first | with_reducible assumption | exact ClL.nil | exact Cl.int _ _ | exact Cl.bool _ | exact Cl.bl _ | exact Cl.bs _ | exact Cl.str _ | exact Cl.nils | exact Cl.nilp | exact Cl.rec _ | exact Cl.bat _ | exact Cl.recsV _ | exact Cl.strsV _ | exact Cl.intsV _ | exact Cl.req _ | exact Cl.rsp _ | exact Cl.reqA _ | exact Cl.rspA _ | exact Cl.batsV _ | exact Cl.prsV _ | exact Cl.atsV _ | exact Cl.entA _ _ | exact Cl.ent _ | exact Cl.rr _ _ | exact Cl.foundA _ | exact Cl.getB _ | exact Cl.encA _ | exact Cl.firstA _ | refine ClL.cons ?_ ?_ | refine Cl.tup ?_ | refine Cl.agg ?_ | exact ClO.RO _ _))) (by (repeat' (first | with_reducible assumption | exact ClL.nil | exact Cl.int _ _ | exact Cl.bool _ | exact Cl.bl _ | exact Cl.bs _ | exact Cl.str _ | exact Cl.nils | exact Cl.nilp | exact Cl.rec _ | exact Cl.bat _ | exact Cl.recsV _ | exact Cl.strsV _ | exact Cl.intsV _ | exact Cl.req _ | exact Cl.rsp _ | exact Cl.reqA _ | exact Cl.rspA _ | exact Cl.batsV _ | exact Cl.prsV _ | exact Cl.atsV _ | exact Cl.entA _ _ | exact Cl.ent _ | exact Cl.rr _ _ | exact Cl.foundA _ | exact Cl.getB _ | exact Cl.encA _ | exact Cl.firstA _ | refine ClL.cons ?_ ?_ | refine Cl.tup ?_ | refine Cl.agg ?_ | exact ClO.RO _ _))) ?_
    (conv => arg 4; whnf); repeat (refine ⟨rfl, ?_⟩; conv => arg 4; whnf)
    refine ⟨fun h' => absurd h' (by simp [hk]), fun _ => ?_⟩
    (conv => arg 4; whnf); repeat (refine ⟨rfl, ?_⟩; conv => arg 4; whnf)
    refine call1 4 rErr rfl rfl (ClO.RO _ _) (ClO.RO _ _) rfl (Cl.int _ _) ?_
    (conv => arg 4; whnf); repeat (refine ⟨rfl, ?_⟩; conv => arg 4; whnf)
    refine ⟨fun h => absurd h (by first | (simp; done) | (simp [u8s]; done)), fun _ => ?_⟩
    conv => arg 4; whnf
    refine call1 4 rLeft rfl rfl (ClO.RO _ _) (ClO.RO _ _) rfl (Cl.int _ _) ?_
    (conv => arg 4; whnf); repeat (refine ⟨rfl, ?_⟩; conv => arg 4; whnf)
    refine ⟨fun h => absurd h (by first | (simp; done) | (simp [u8s]; done)), fun _ => ?_⟩
    conv => arg 4; whnf
    refine ⟨fun h => absurd h (by first | (simp; done) | (simp [u8s]; done)), fun _ => ?_⟩
    conv => arg 4; whnf
    refine ⟨fun h => absurd h (by first | (simp; done) | (simp [u8s]; done)), fun _ => ?_⟩
    conv => arg 4; whnf
    refine ⟨fun _ => ?_, fun h => absurd h (by first | (simp; done) | (simp [u8s]; done))⟩
    conv => arg 4; whnf
    refine call0 (cmMayGen (g := g) (n := n) (by omega)) (by (repeat' (first | with_reducible assumption | exact ClL.nil | exact Cl.int _ _ | exact Cl.bool _ | exact Cl.bl _ | exact Cl.bs _ | exact Cl.str _ | exact Cl.nils | exact Cl.nilp | exact Cl.rec _ | exact Cl.bat _ | exact Cl.recsV _ | exact Cl.strsV _ | exact Cl.intsV _ | exact Cl.req _ | exact Cl.rsp _ | exact Cl.reqA _ | exact Cl.rspA _ | exact Cl.batsV _ | exact Cl.prsV _ | exact Cl.atsV _ | exact Cl.entA _ _ | exact Cl.ent _ | exact Cl.rr _ _ | exact Cl.foundA _ | exact Cl.getB _ | exact Cl.encA _ | exact Cl.firstA _ | refine ClL.cons ?_ ?_ | refine Cl.tup ?_ | refine Cl.agg ?_ | exact ClO.RO _ _))) (by (repeat' (first | with_reducible assumption | exact ClL.nil | exact Cl.int _ _ | exact Cl.bool _ | exact Cl.bl _ | exact Cl.bs _ | exact Cl.str _ | exact Cl.nils | exact Cl.nilp | exact Cl.rec _ | exact Cl.bat _ | exact Cl.recsV _ | exact Cl.strsV _ | exact Cl.intsV _ | exact Cl.req _ | exact Cl.rsp _ | exact Cl.reqA _ | exact Cl.rspA _ | exact Cl.batsV _ | exact Cl.prsV _ | exact Cl.atsV _ | exact Cl.entA _ _ | exact Cl.ent _ | exact Cl.rr _ _ | exact Cl.foundA _ | exact Cl.getB _ | exact Cl.encA _ | exact Cl.firstA _ | refine ClL.cons ?_ ?_ | refine Cl.tup ?_ | refine Cl.agg ?_ | exact ClO.RO _ _))) ?_
    (conv => arg 4; whnf); repeat (refine ⟨rfl, ?_⟩; conv => arg 4; whnf)
    refine ⟨fun _ => ?_, fun h' => absurd h' (by rw [(hval rfl).2, hhv]; decide)⟩
    (conv => arg 4; whnf); repeat (refine ⟨rfl, ?_⟩; conv => arg 4; whnf)
    refine callTab 0 1 2 (cmGenOk (m := m) (f := f) (hval rfl).2) rfl rfl rfl rfl rfl rfl rfl rfl rfl ?_
    (conv => arg 4; whnf); repeat (refine ⟨rfl, ?_⟩; conv => arg 4; whnf)
    exact ⟨by decide, Le.refl _ _, ⟨⟨_, rfl, LeO.refl _ _⟩, ⟨_, rfl, LeO.refl _ _⟩, ⟨_, rfl, LeO.refl _ _⟩, trivial⟩, (by (repeat' (first | with_reducible assumption | exact ClL.nil | exact Cl.int _ _ | exact Cl.bool _ | exact Cl.bl _ | exact Cl.bs _ | exact Cl.str _ | exact Cl.nils | exact Cl.nilp | exact Cl.rec _ | exact Cl.bat _ | exact Cl.recsV _ | exact Cl.strsV _ | exact Cl.intsV _ | exact Cl.req _ | exact Cl.rsp _ | exact Cl.reqA _ | exact Cl.rspA _ | exact Cl.batsV _ | exact Cl.prsV _ | exact Cl.atsV _ | exact Cl.entA _ _ | exact Cl.ent _ | exact Cl.rr _ _ | exact Cl.foundA _ | exact Cl.getB _ | exact Cl.encA _ | exact Cl.firstA _ | refine ClL.cons ?_ ?_ | refine Cl.tup ?_ | refine Cl.agg ?_ | exact ClO.RO _ _)) : Cl _) _, ⟨⟨by decide, rfl⟩, ⟨by decide, ClO.fE _ _⟩, ⟨by decide, ClO.mE _ _⟩, trivial⟩⟩
end Go.Proofs.Ytlifbhcmihnkpaa.Cm

namespace Go.Proofs.Ytlifbhcmihnkpaa.Cm
set_option maxRecDepth 100000
set_option maxHeartbeats 80000000
open Go.Sym

abbrev Tru (a : AV) (_ : Heap) (_ : Nat) : Prop := a = .bool true ∨ a = .bl true

theorem Cl.intsV (l : List Int) : Cl (.sl .none 0 (ints l)) := Cl.sl (fun ρ => ren_ints ρ l)
theorem argsT {nx i j k : Nat} {a : AV} (h : Cl a) : [AV.ptr k 0, a] = renL (rho nx [i, j, k]) [.ptr 2 0, a] := by
  simp only [renL, ren, h _]
  rfl
theorem cmRecordOk {e : Ent} {now : Int} (h : mayE e = true) (hn : mayT now = true) : CallOK Try.prog 40 [e.av, .int .i64 now] [] 0 (Out (.tup [(recR (keyO e) e.o now).av, .int .i64 0]) [] 0) := by
  have hl := mayE_nums h
  have c := cmRecord (e := e) (now := now) (by omega) (by omega)
  rw [h, hn] at c
  exact c
theorem cmGenRecordOk {g : List UInt8} {n now : Int} (h : mayG g n = true) (hn : mayT now = true) : CallOK Try.prog 43 [.str g, .int .i64 n, .int .i64 now] [] 0 (Out (.tup [(recR (keyG g) n now).av, .int .i64 0]) [] 0) := by
  have hl := mayG_nums h
  have c := cmGenRecord (g := g) (n := n) (now := now) (by omega)
  rw [h, hn] at c
  exact c

theorem cmPutNo {m : List (MK × Int)} {f : List (List UInt8 × Int)} {e : Ent} (h : mayE e = false) (hg : e.g.length ≤ 1000000) (ht : e.t.length ≤ 1000000) : CallOK Try.prog 47 [.ptr 2 0, e.av] (TH m f) 3 (Out (.int .i64 1) (TH m f) 3) := by
  have c := cmPut (m := m) (f := f) (e := e) hg ht
  simp only [h, Bool.false_eq_true, if_false] at c
  exact c

theorem isum_range : ∀ {xs : List Int} {n : Int}, 0 ≤ n ∧ n ≤ 1099511627776 → (∀ x ∈ xs, 0 ≤ x) → 0 ≤ isum n xs ∧ isum n xs ≤ 1099511627776
  | [], n, hn, _ => hn
  | x :: r, n, hn, hx => by
    have h0 := hx x List.mem_cons_self
    unfold isum
    split
    · omega
    · exact isum_range (by omega) fun y hy => hx y (List.mem_cons_of_mem _ hy)
theorem isum_eq : ∀ {xs : List Int} {n : Int}, 0 ≤ n ∧ n ≤ 1099511627776 → (∀ x ∈ xs, 0 ≤ x) → isum n xs < 1099511627776 → isum n xs = n + xs.sum
  | [], n, hn, _, _ => by simp [isum]
  | x :: r, n, hn, hx, hl => by
    have h0 := hx x List.mem_cons_self
    unfold isum at hl ⊢
    split at hl
    · omega
    · rename_i hc
      rw [if_neg hc, isum_eq (by omega) (fun y hy => hx y (List.mem_cons_of_mem _ hy)) hl, List.sum_cons]
      omega

theorem sumB {n : Int} {x : Int} {xs : List Int} (hn : 1099511627776 < n) (hn' : n ≤ 1000000000000000000) (hx : 0 ≤ x) : CallOK Try.prog 38 [.int .i64 n, .sl .none 0 (ints (x :: xs))] [] 0 (Out (.int .i64 1099511627776) [] 0) := by
  refine callOK Try.call38 Try.func38 Try.ntmps38 rfl ?_
  conv => arg 4; whnf
  refine tri_loopG (ι := Unit) (fun _ => ⟨[(5, .int .i64 0), (0, .int .i64 n), (1, .sl .none 0 (ints (x :: xs)))], [], 0, 30⟩) (fun _ => 0) () (WkG.of rfl rfl ⟨Le.refl _ _, Le.refl _ _, Le.refl _ _, trivial⟩ trivial ⟨rfl, rfl, Cl.intsV _ _, trivial⟩ trivial) ?_
  intro _
  conv => arg 4; whnf
  have h0 : decide ((0 : Int) < ((ints (x :: xs)).length : Int)) = true := by simp [ints]
  refine ⟨fun _ => ?_, fun h' => absurd (h0.symm.trans h') (by decide)⟩
  conv => arg 4; whnf
  refine ⟨.int .i64 x, ctxP_of ⟨by omega, rfl⟩, ?_⟩
  conv => arg 4; whnf
  have h1 : decide (n > 1099511627776) = true := by simp; omega
  rw [h1]
  refine ⟨fun _ => ?_, fun h' => absurd h' (by simp)⟩
  conv => arg 4; whnf
  exact ⟨rfl, rfl, rfl⟩

/-- A weight's sum, of numbers that are none below nothing; below the limit it is their sum. -/
theorem sumE {n x : Int} {xs : List Int} (hn : 0 ≤ n ∧ n ≤ 1000000000000000000) (hx : ∀ y ∈ x :: xs, 0 ≤ y) (hl : (x :: xs).length ≤ 1000) :
    CallOK Try.prog 38 [.int .i64 n, .sl .none 0 (ints (x :: xs))] [] 0 (fun a h m => ∃ v : Int, (0 ≤ v ∧ v ≤ 1099511627776 ∧ (v < 1099511627776 → v = n + (x :: xs).sum)) ∧ Out (.int .i64 v) [] 0 a h m) := by
  by_cases h : n ≤ 1099511627776
  · exact (sum ⟨hn.1, h⟩ hx hl).mono fun _ _ _ k => ⟨_, ⟨(isum_range ⟨hn.1, h⟩ hx).1, (isum_range ⟨hn.1, h⟩ hx).2, isum_eq ⟨hn.1, h⟩ hx⟩, k⟩
  · exact (sumB (by omega) hn.2 (hx x List.mem_cons_self)).mono fun _ _ _ k => ⟨1099511627776, ⟨by omega, by omega, fun h => by omega⟩, k⟩

theorem made18 {e : Ent} : CallOK Try.prog 41 [e.av] [] 0 (Out e.av [] 0) := by
  refine CallOK.fit (by decide) ?_
  refine callOK Try.call41 Try.func41 Try.ntmps41 rfl ?_
  conv => arg 4; whnf
  exact ⟨by decide, Le.refl _ _, trivial, Cl.ent _ _, trivial⟩

theorem awake18 : CallOK Try.prog 39 [] [] 0 (Out (.bool true) [] 0) := by
  refine CallOK.fit (by decide) ?_
  refine callOK Try.call39 Try.func39 Try.ntmps39 rfl ?_
  conv => arg 4; whnf
  refine holds_out [] cmNew rfl trivial rfl ?_
  (conv => arg 4; whnf); repeat (refine ⟨rfl, ?_⟩; conv => arg 4; whnf)
  refine call0 (cmRecordOk (e := ⟨[103], [116], 1, 7⟩) (now := 3) (by decide) (by decide)) (by (repeat' (first | with_reducible assumption | exact ClL.nil | exact Cl.int _ _ | exact Cl.bool _ | exact Cl.bl _ | exact Cl.bs _ | exact Cl.str _ | exact Cl.nils | exact Cl.nilp | exact Cl.rec _ | exact Cl.bat _ | exact Cl.recsV _ | exact Cl.strsV _ | exact Cl.intsV _ | exact Cl.req _ | exact Cl.rsp _ | exact Cl.reqA _ | exact Cl.rspA _ | exact Cl.batsV _ | exact Cl.prsV _ | exact Cl.atsV _ | exact Cl.entA _ _ | exact Cl.ent _ | exact Cl.rr _ _ | exact Cl.foundA _ | exact Cl.getB _ | exact Cl.encA _ | exact Cl.firstA _ | refine ClL.cons ?_ ?_ | refine Cl.tup ?_ | refine Cl.agg ?_ | exact ClO.RO _ _))) (Cl.tup (ClL.cons (Cl.rec _) (ClL.cons (Cl.int _ _) ClL.nil))) ?_
  (conv => arg 4; whnf); repeat (refine ⟨rfl, ?_⟩; conv => arg 4; whnf)
  refine callTab 0 1 2 (m := []) (f := []) (applyO (r := recR (keyO ⟨[103], [116], 1, 7⟩) 7 3) (e := ⟨[103], [116], 1, 7⟩) (hv := true) rfl rfl rfl (fun _ => ⟨rfl, by decide⟩) (by decide)) rfl rfl rfl rfl rfl rfl rfl (argsT (Cl.rec _)) rfl ?_
  (conv => arg 4; whnf); repeat (refine ⟨rfl, ?_⟩; conv => arg 4; whnf)
  refine callTab 0 1 2 (m := setM [] ([103], [116], 1) 7) (f := []) (cmGet (g := [103]) (t := [116]) (p := 1)) rfl rfl rfl rfl rfl rfl rfl rfl rfl ?_
  (conv => arg 4; whnf); repeat (refine ⟨rfl, ?_⟩; conv => arg 4; whnf)
  refine ⟨fun _ => ?_, fun h' => absurd h' (by decide)⟩
  (conv => arg 4; whnf); repeat (refine ⟨rfl, ?_⟩; conv => arg 4; whnf)
  refine callTab 0 1 2 (m := setM [] ([103], [116], 1) 7) (f := []) (cmPutNo (e := ⟨[71], [116], 0, 0⟩) (by decide) (by decide) (by decide)) rfl rfl rfl rfl rfl rfl rfl rfl rfl ?_
  (conv => arg 4; whnf); repeat (refine ⟨rfl, ?_⟩; conv => arg 4; whnf)
  refine ⟨by decide, Le.of_eq (congrArg AV.bool (by decide)), trivial, (Cl.bool _) _, trivial⟩

theorem lawRecords {e : Ent} {gen now : Int} (hg : e.g.length ≤ 1000000000000000) (ht : e.t.length ≤ 1000000000000000) : CallOK Try.prog 7 [e.av, .int .i64 gen, .int .i64 now] [] 0 Tru := by
  refine callOK Try.call7 Try.func7 Try.ntmps7 rfl ?_
  conv => arg 4; whnf
  refine holds_args (args' := [_, .sl .none 0 (ints [(e.t.length : Int)])]) ⟨Le.refl _ _, Le.none, trivial⟩ ?_
  refine call0E (sumE (n := (e.g.length : Int)) (x := (e.t.length : Int)) (xs := []) ⟨by omega, by omega⟩ (by intro y hy; simp at hy; omega) (by simp)) (ClL.cons (Cl.int _ _) (ClL.cons (Cl.intsV _) ClL.nil)) (fun x => by (repeat' (first | with_reducible assumption | exact ClL.nil | exact Cl.int _ _ | exact Cl.bool _ | exact Cl.bl _ | exact Cl.bs _ | exact Cl.str _ | exact Cl.nils | exact Cl.nilp | exact Cl.rec _ | exact Cl.bat _ | exact Cl.recsV _ | exact Cl.strsV _ | exact Cl.intsV _ | exact Cl.req _ | exact Cl.rsp _ | exact Cl.reqA _ | exact Cl.rspA _ | exact Cl.batsV _ | exact Cl.prsV _ | exact Cl.atsV _ | exact Cl.entA _ _ | exact Cl.ent _ | exact Cl.rr _ _ | exact Cl.foundA _ | exact Cl.getB _ | exact Cl.encA _ | exact Cl.firstA _ | refine ClL.cons ?_ ?_ | refine Cl.tup ?_ | refine Cl.agg ?_ | exact ClO.RO _ _))) fun v hv => ?_
  (conv => arg 4; whnf); repeat (refine ⟨rfl, ?_⟩; conv => arg 4; whnf)
  refine ⟨fun h => ?_, fun h => ?_⟩
  · (conv => arg 4; whnf); repeat (refine ⟨rfl, ?_⟩; conv => arg 4; whnf)
    refine call0 awake18 (by (repeat' (first | with_reducible assumption | exact ClL.nil | exact Cl.int _ _ | exact Cl.bool _ | exact Cl.bl _ | exact Cl.bs _ | exact Cl.str _ | exact Cl.nils | exact Cl.nilp | exact Cl.rec _ | exact Cl.bat _ | exact Cl.recsV _ | exact Cl.strsV _ | exact Cl.intsV _ | exact Cl.req _ | exact Cl.rsp _ | exact Cl.reqA _ | exact Cl.rspA _ | exact Cl.batsV _ | exact Cl.prsV _ | exact Cl.atsV _ | exact Cl.entA _ _ | exact Cl.ent _ | exact Cl.rr _ _ | exact Cl.foundA _ | exact Cl.getB _ | exact Cl.encA _ | exact Cl.firstA _ | refine ClL.cons ?_ ?_ | refine Cl.tup ?_ | refine Cl.agg ?_ | exact ClO.RO _ _))) (by (repeat' (first | with_reducible assumption | exact ClL.nil | exact Cl.int _ _ | exact Cl.bool _ | exact Cl.bl _ | exact Cl.bs _ | exact Cl.str _ | exact Cl.nils | exact Cl.nilp | exact Cl.rec _ | exact Cl.bat _ | exact Cl.recsV _ | exact Cl.strsV _ | exact Cl.intsV _ | exact Cl.req _ | exact Cl.rsp _ | exact Cl.reqA _ | exact Cl.rspA _ | exact Cl.batsV _ | exact Cl.prsV _ | exact Cl.atsV _ | exact Cl.entA _ _ | exact Cl.ent _ | exact Cl.rr _ _ | exact Cl.foundA _ | exact Cl.getB _ | exact Cl.encA _ | exact Cl.firstA _ | refine ClL.cons ?_ ?_ | refine Cl.tup ?_ | refine Cl.agg ?_ | exact ClO.RO _ _))) ?_
    (conv => arg 4; whnf); repeat (refine ⟨rfl, ?_⟩; conv => arg 4; whnf)
    exact .inl rfl
  · rw [← Bool.not_eq_true] at h; simp only [Bool.cond_true_left, Bool.cond_false_right, Bool.or_eq_true, Bool.and_eq_true, Bool.not_eq_true', decide_eq_true_eq, beq_iff_eq, bne_iff_ne, u8s_length, gt_iff_lt, ge_iff_le] at h
    have h2 := hv.2.2 (by omega)
    simp only [List.sum_cons, List.sum_nil] at h2
    have hgl : e.g.length ≤ 300 ∧ e.t.length ≤ 300 := by omega
    (conv => arg 4; whnf); repeat (refine ⟨rfl, ?_⟩; conv => arg 4; whnf)
    refine call0 made18 (ClL.cons (Cl.ent e) ClL.nil) (Cl.ent e) ?_
    (conv => arg 4; whnf); repeat (refine ⟨rfl, ?_⟩; conv => arg 4; whnf)
    refine call0 (cmRecord (e := e) (now := now) (by omega) (by omega)) (by (repeat' (first | with_reducible assumption | exact ClL.nil | exact Cl.int _ _ | exact Cl.bool _ | exact Cl.bl _ | exact Cl.bs _ | exact Cl.str _ | exact Cl.nils | exact Cl.nilp | exact Cl.rec _ | exact Cl.bat _ | exact Cl.recsV _ | exact Cl.strsV _ | exact Cl.intsV _ | exact Cl.req _ | exact Cl.rsp _ | exact Cl.reqA _ | exact Cl.rspA _ | exact Cl.batsV _ | exact Cl.prsV _ | exact Cl.atsV _ | exact Cl.entA _ _ | exact Cl.ent _ | exact Cl.rr _ _ | exact Cl.foundA _ | exact Cl.getB _ | exact Cl.encA _ | exact Cl.firstA _ | refine ClL.cons ?_ ?_ | refine Cl.tup ?_ | refine Cl.agg ?_ | exact ClO.RO _ _))) (Cl.rr _ _) ?_
    (conv => arg 4; whnf); repeat (refine ⟨rfl, ?_⟩; conv => arg 4; whnf)
    refine call0 (refRecord (e := e) (now := now) (by omega) (by omega)) (ClL.cons (Cl.ent e) (ClL.cons (Cl.int _ _) ClL.nil)) (Cl.rr _ _) ?_
    (conv => arg 4; whnf); repeat (refine ⟨rfl, ?_⟩; conv => arg 4; whnf)
    refine call0 (cmGenRecord (g := e.g) (n := gen) (now := now) (by omega)) (by (repeat' (first | with_reducible assumption | exact ClL.nil | exact Cl.int _ _ | exact Cl.bool _ | exact Cl.bl _ | exact Cl.bs _ | exact Cl.str _ | exact Cl.nils | exact Cl.nilp | exact Cl.rec _ | exact Cl.bat _ | exact Cl.recsV _ | exact Cl.strsV _ | exact Cl.intsV _ | exact Cl.req _ | exact Cl.rsp _ | exact Cl.reqA _ | exact Cl.rspA _ | exact Cl.batsV _ | exact Cl.prsV _ | exact Cl.atsV _ | exact Cl.entA _ _ | exact Cl.ent _ | exact Cl.rr _ _ | exact Cl.foundA _ | exact Cl.getB _ | exact Cl.encA _ | exact Cl.firstA _ | refine ClL.cons ?_ ?_ | refine Cl.tup ?_ | refine Cl.agg ?_ | exact ClO.RO _ _))) (Cl.rr _ _) ?_
    (conv => arg 4; whnf); repeat (refine ⟨rfl, ?_⟩; conv => arg 4; whnf)
    refine call0 (refGenRecord (g := e.g) (n := gen) (now := now) (by omega)) (by (repeat' (first | with_reducible assumption | exact ClL.nil | exact Cl.int _ _ | exact Cl.bool _ | exact Cl.bl _ | exact Cl.bs _ | exact Cl.str _ | exact Cl.nils | exact Cl.nilp | exact Cl.rec _ | exact Cl.bat _ | exact Cl.recsV _ | exact Cl.strsV _ | exact Cl.intsV _ | exact Cl.req _ | exact Cl.rsp _ | exact Cl.reqA _ | exact Cl.rspA _ | exact Cl.batsV _ | exact Cl.prsV _ | exact Cl.atsV _ | exact Cl.entA _ _ | exact Cl.ent _ | exact Cl.rr _ _ | exact Cl.foundA _ | exact Cl.getB _ | exact Cl.encA _ | exact Cl.firstA _ | refine ClL.cons ?_ ?_ | refine Cl.tup ?_ | refine Cl.agg ?_ | exact ClO.RO _ _))) (Cl.rr _ _) ?_
    (conv => arg 4; whnf); repeat (refine ⟨rfl, ?_⟩; conv => arg 4; whnf)
    refine call0 (refSameRec (a := rrR (mayE e && mayT now) (recR (keyO e) e.o now)) (b := rrR (mayE e && mayT now) (recR (keyO e) e.o now))) (ClL.cons (Cl.rec _) (ClL.cons (Cl.rec _) ClL.nil)) (by (repeat' (first | with_reducible assumption | exact ClL.nil | exact Cl.int _ _ | exact Cl.bool _ | exact Cl.bl _ | exact Cl.bs _ | exact Cl.str _ | exact Cl.nils | exact Cl.nilp | exact Cl.rec _ | exact Cl.bat _ | exact Cl.recsV _ | exact Cl.strsV _ | exact Cl.intsV _ | exact Cl.req _ | exact Cl.rsp _ | exact Cl.reqA _ | exact Cl.rspA _ | exact Cl.batsV _ | exact Cl.prsV _ | exact Cl.atsV _ | exact Cl.entA _ _ | exact Cl.ent _ | exact Cl.rr _ _ | exact Cl.foundA _ | exact Cl.getB _ | exact Cl.encA _ | exact Cl.firstA _ | refine ClL.cons ?_ ?_ | refine Cl.tup ?_ | refine Cl.agg ?_ | exact ClO.RO _ _))) ?_
    (conv => arg 4; whnf); repeat (refine ⟨rfl, ?_⟩; conv => arg 4; whnf)
    refine ⟨fun _ => ?_, fun h' => absurd h' (by simp)⟩
    (conv => arg 4; whnf); repeat (refine ⟨rfl, ?_⟩; conv => arg 4; whnf)
    refine call0 (refSameRec (a := rrR (mayG e.g gen && mayT now) (recR (keyG e.g) gen now)) (b := rrR (mayG e.g gen && mayT now) (recR (keyG e.g) gen now))) (ClL.cons (Cl.rec _) (ClL.cons (Cl.rec _) ClL.nil)) (by (repeat' (first | with_reducible assumption | exact ClL.nil | exact Cl.int _ _ | exact Cl.bool _ | exact Cl.bl _ | exact Cl.bs _ | exact Cl.str _ | exact Cl.nils | exact Cl.nilp | exact Cl.rec _ | exact Cl.bat _ | exact Cl.recsV _ | exact Cl.strsV _ | exact Cl.intsV _ | exact Cl.req _ | exact Cl.rsp _ | exact Cl.reqA _ | exact Cl.rspA _ | exact Cl.batsV _ | exact Cl.prsV _ | exact Cl.atsV _ | exact Cl.entA _ _ | exact Cl.ent _ | exact Cl.rr _ _ | exact Cl.foundA _ | exact Cl.getB _ | exact Cl.encA _ | exact Cl.firstA _ | refine ClL.cons ?_ ?_ | refine Cl.tup ?_ | refine Cl.agg ?_ | exact ClO.RO _ _))) ?_
    (conv => arg 4; whnf); repeat (refine ⟨rfl, ?_⟩; conv => arg 4; whnf)
    refine ⟨fun _ => ?_, fun h' => absurd h' (by simp)⟩
    (conv => arg 4; whnf); repeat (refine ⟨rfl, ?_⟩; conv => arg 4; whnf)
    refine call0 awake18 (by (repeat' (first | with_reducible assumption | exact ClL.nil | exact Cl.int _ _ | exact Cl.bool _ | exact Cl.bl _ | exact Cl.bs _ | exact Cl.str _ | exact Cl.nils | exact Cl.nilp | exact Cl.rec _ | exact Cl.bat _ | exact Cl.recsV _ | exact Cl.strsV _ | exact Cl.intsV _ | exact Cl.req _ | exact Cl.rsp _ | exact Cl.reqA _ | exact Cl.rspA _ | exact Cl.batsV _ | exact Cl.prsV _ | exact Cl.atsV _ | exact Cl.entA _ _ | exact Cl.ent _ | exact Cl.rr _ _ | exact Cl.foundA _ | exact Cl.getB _ | exact Cl.encA _ | exact Cl.firstA _ | refine ClL.cons ?_ ?_ | refine Cl.tup ?_ | refine Cl.agg ?_ | exact ClO.RO _ _))) (by (repeat' (first | with_reducible assumption | exact ClL.nil | exact Cl.int _ _ | exact Cl.bool _ | exact Cl.bl _ | exact Cl.bs _ | exact Cl.str _ | exact Cl.nils | exact Cl.nilp | exact Cl.rec _ | exact Cl.bat _ | exact Cl.recsV _ | exact Cl.strsV _ | exact Cl.intsV _ | exact Cl.req _ | exact Cl.rsp _ | exact Cl.reqA _ | exact Cl.rspA _ | exact Cl.batsV _ | exact Cl.prsV _ | exact Cl.atsV _ | exact Cl.entA _ _ | exact Cl.ent _ | exact Cl.rr _ _ | exact Cl.foundA _ | exact Cl.getB _ | exact Cl.encA _ | exact Cl.firstA _ | refine ClL.cons ?_ ?_ | refine Cl.tup ?_ | refine Cl.agg ?_ | exact ClO.RO _ _))) ?_
    (conv => arg 4; whnf); repeat (refine ⟨rfl, ?_⟩; conv => arg 4; whnf)
    exact .inl rfl
end Go.Proofs.Ytlifbhcmihnkpaa.Cm

namespace Go.Proofs.Ytlifbhcmihnkpaa.Cm
set_option maxRecDepth 100000
set_option maxHeartbeats 80000000
open Go.Sym

inductive Opr where
  | o (e : Ent) (now : Int)
  | g (gr : List UInt8) (n now : Int)
def Opr.key : Opr → List UInt8
  | .o e _ => keyO e
  | .g gr _ _ => keyG gr
def Opr.rec' : Opr → Rec
  | .o e now => recR (keyO e) e.o now
  | .g gr n now => recR (keyG gr) n now
def Opr.ok : Opr → Prop
  | .o e _ => mayE e = true
  | .g gr n _ => mayG gr n = true ∧ 0 < n
def mkOf (e : Ent) : MK := (e.g, e.t, e.p)
def stepM (m : List (MK × Int)) : Opr → List (MK × Int)
  | .o e _ => setM m (mkOf e) e.o
  | .g .. => m
def stepF (f : List (List UInt8 × Int)) : Opr → List (List UInt8 × Int)
  | .o .. => f
  | .g gr n _ => setM f gr (max ((findM f gr).getD 0) n)
def runM (l : List Opr) : List (MK × Int) := l.foldl stepM []
def runF (l : List Opr) : List (List UInt8 × Int) := l.foldl stepF []
theorem runM_snoc (l : List Opr) (p : Opr) : runM (l ++ [p]) = stepM (runM l) p := by simp [runM]
theorem runF_snoc (l : List Opr) (p : Opr) : runF (l ++ [p]) = stepF (runF l) p := by simp [runF]

theorem once_stepM {m : List (MK × Int)} (h : OnceM m) (p : Opr) : OnceM (stepM m p) := by
  cases p with
  | o e now => exact once_set _ _ h
  | g gr n now => exact h
theorem once_stepF {f : List (List UInt8 × Int)} (h : OnceM f) (p : Opr) : OnceM (stepF f p) := by
  cases p with
  | o e now => exact h
  | g gr n now => exact once_set _ _ h
theorem once_foldM : ∀ (l : List Opr) {m : List (MK × Int)}, OnceM m → OnceM (l.foldl stepM m)
  | [], _, h => h
  | p :: l, _, h => once_foldM l (once_stepM h p)
theorem once_foldF : ∀ (l : List Opr) {m : List (List UInt8 × Int)}, OnceM m → OnceM (l.foldl stepF m)
  | [], _, h => h
  | p :: l, _, h => once_foldF l (once_stepF h p)
theorem once_runM (l : List Opr) : OnceM (runM l) := once_foldM l trivial
theorem once_runF (l : List Opr) : OnceM (runF l) := once_foldF l trivial

/-- What the last one of a key says. -/
def lkM : List Opr → MK → Option Int
  | [], _ => none
  | p :: r, k => match lkM r k with
    | some v => some v
    | none => match p with
      | .o e _ => if k = mkOf e then some e.o else none
      | .g .. => none
theorem find_foldM (k : MK) : ∀ (l : List Opr) (m : List (MK × Int)), findM (l.foldl stepM m) k = match lkM l k with | some v => some v | none => findM m k
  | [], m => rfl
  | p :: r, m => by
    rw [List.foldl_cons, find_foldM k r]
    simp only [lkM]
    cases lkM r k with
    | some v => rfl
    | none =>
      cases p with
      | g gr n now => rfl
      | o e now =>
        simp only [stepM, find_set]
        by_cases h : k = mkOf e
        · rw [if_pos h, if_pos h]
        · rw [if_neg h, if_neg h]
def lkF : List Opr → List UInt8 → Option Int
  | [], _ => none
  | p :: r, k => match lkF r k with
    | some v => some v
    | none => match p with
      | .g gr n _ => if k = gr then some n else none
      | .o .. => none

/-- Floors rise. -/
def AscF : List Opr → List (List UInt8 × Int) → Prop
  | [], _ => True
  | p :: r, f => (match p with | .g gr n _ => (findM f gr).getD 0 ≤ n | .o _ _ => True) ∧ AscF r (stepF f p)
theorem asc_snoc : ∀ {l : List Opr} {p : Opr} {f : List (List UInt8 × Int)}, AscF l f → (match p with | .g gr n _ => (findM (l.foldl stepF f) gr).getD 0 ≤ n | .o _ _ => True) → AscF (l ++ [p]) f
  | [], p, f, _, h => ⟨h, trivial⟩
  | q :: l, p, f, ⟨h1, h2⟩, h => ⟨h1, asc_snoc h2 h⟩
theorem find_foldF (k : List UInt8) : ∀ {l : List Opr} {f : List (List UInt8 × Int)}, AscF l f → findM (l.foldl stepF f) k = match lkF l k with | some v => some v | none => findM f k
  | [], _, _ => rfl
  | p :: r, f, ⟨h1, h2⟩ => by
    rw [List.foldl_cons, find_foldF k h2]
    simp only [lkF]
    cases lkF r k with
    | some v => rfl
    | none =>
      cases p with
      | o e now => rfl
      | g gr n now =>
        have h1 : (findM f gr).getD 0 ≤ n := h1
        simp only [stepF, find_set]
        by_cases h : k = gr
        · rw [if_pos h, if_pos h, show max ((findM f gr).getD 0) n = n by omega]
        · rw [if_neg h, if_neg h]

/-- Those alone that are the last of their keys. -/
def lasts : List Opr → List Opr
  | [] => []
  | p :: r => if r.all (fun q => decide (q.key ≠ p.key)) then p :: lasts r else lasts r
def lastsN : List Opr → Nat → List Opr
  | [], _ => []
  | _ :: _, 0 => []
  | p :: r, i + 1 => if r.all (fun q => decide (q.key ≠ p.key)) then p :: lastsN r i else lastsN r i
theorem lastsN_zero : ∀ l : List Opr, lastsN l 0 = []
  | [] => rfl
  | _ :: _ => rfl
theorem lastsN_all : ∀ l : List Opr, lastsN l l.length = lasts l
  | [] => rfl
  | p :: r => by simp only [List.length_cons, lastsN, lasts, lastsN_all r]
theorem lastsN_step : ∀ {l : List Opr} {i : Nat} {p : Opr}, l[i]? = some p → lastsN l (i + 1) = lastsN l i ++ (if (l.drop (i + 1)).all (fun q => decide (q.key ≠ p.key)) then [p] else [])
  | [], i, p, h => by simp at h
  | q :: r, 0, p, h => by
    simp only [List.getElem?_cons_zero, Option.some.injEq] at h
    subst h
    simp only [lastsN, lastsN_zero, List.nil_append, Nat.zero_add, List.drop_succ_cons, List.drop_zero]
  | q :: r, i + 1, p, h => by
    rw [List.getElem?_cons_succ] at h
    simp only [lastsN, List.drop_succ_cons] at *
    rw [lastsN_step h]
    split
    · rfl
    · rfl
theorem lasts_mem : ∀ {l : List Opr} {p : Opr}, p ∈ lasts l → p ∈ l
  | [], _, h => h
  | q :: r, p, h => by
    simp only [lasts] at h
    split at h
    · rcases List.mem_cons.1 h with rfl | h
      · exact List.mem_cons_self
      · exact List.mem_cons_of_mem _ (lasts_mem h)
    · exact List.mem_cons_of_mem _ (lasts_mem h)

theorem len_ne {s : List UInt8} (h : s.length ≤ 20) (r : List UInt8) : bytesR (lenB s ++ r) 0 20 = (s, r, 0) := bytesR_put (by omega) (by omega)
theorem keyO_inj {e e' : Ent} (h : mayE e = true) (h' : mayE e' = true) (hk : keyO e = keyO e') : mkOf e = mkOf e' := by
  have n := mayE_nums h
  have n' := mayE_nums h'
  have a := len_ne (s := [111]) (by decide) (lenB e.g ++ (lenB e.t ++ put e.p))
  have a' := len_ne (s := [111]) (by decide) (lenB e'.g ++ (lenB e'.t ++ put e'.p))
  have k1 : keyO e = lenB [111] ++ (lenB e.g ++ (lenB e.t ++ put e.p)) := by simp only [keyO, List.append_assoc]
  have k2 : keyO e' = lenB [111] ++ (lenB e'.g ++ (lenB e'.t ++ put e'.p)) := by simp only [keyO, List.append_assoc]
  rw [← k1, hk, k2, a'] at a
  simp only [Prod.mk.injEq, true_and, and_true] at a
  have b := len_ne (s := e.g) n.2.2.1 (lenB e.t ++ put e.p)
  have b' := len_ne (s := e'.g) n'.2.2.1 (lenB e'.t ++ put e'.p)
  rw [← a, b'] at b
  simp only [Prod.mk.injEq, and_true] at b
  have c := len_ne (s := e.t) n.2.2.2 (put e.p)
  have c' := len_ne (s := e'.t) n'.2.2.2 (put e'.p)
  rw [← b.2, c'] at c
  simp only [Prod.mk.injEq, and_true] at c
  have d := numR_put n.1 []
  have d' := numR_put n'.1 []
  rw [List.append_nil] at d d'
  rw [← c.2, d'] at d
  simp only [Prod.mk.injEq, and_true] at d
  unfold mkOf
  rw [b.1, c.1, d]
theorem keyG_inj {g g' : List UInt8} {n n' : Int} (h : mayG g n = true) (h' : mayG g' n' = true) (hk : keyG g = keyG g') : g = g' := by
  have m := mayG_nums h
  have m' := mayG_nums h'
  have a := len_ne (s := [103]) (by decide) (lenB g)
  have a' := len_ne (s := [103]) (by decide) (lenB g')
  have k1 : keyG g = lenB [103] ++ lenB g := rfl
  have k2 : keyG g' = lenB [103] ++ lenB g' := rfl
  rw [← k1, hk, k2, a'] at a
  simp only [Prod.mk.injEq, true_and, and_true] at a
  have b := len_ne (s := g) m.2 []
  have b' := len_ne (s := g') m'.2 []
  rw [List.append_nil] at b b'
  rw [← a, b'] at b
  simp only [Prod.mk.injEq, and_true] at b
  exact b.symm
theorem key_ne (e : Ent) (g : List UInt8) : keyO e ≠ keyG g := fun hk => by
  have a := len_ne (s := [111]) (by decide) (lenB e.g ++ (lenB e.t ++ put e.p))
  have a' := len_ne (s := [103]) (by decide) (lenB g)
  have k1 : keyO e = lenB [111] ++ (lenB e.g ++ (lenB e.t ++ put e.p)) := by simp only [keyO, List.append_assoc]
  have k2 : keyG g = lenB [103] ++ lenB g := rfl
  rw [← k1, hk, k2, a'] at a
  simp at a
theorem lkM_some {k : MK} : ∀ {l : List Opr}, (∃ e now, Opr.o e now ∈ l ∧ k = mkOf e) → lkM l k ≠ none
  | [], ⟨e, now, h, _⟩ => by cases h
  | p :: r, ⟨e, now, h, hk⟩ => by
    simp only [lkM]
    rcases List.mem_cons.1 h with rfl | h
    · cases lkM r k with
      | some v => simp
      | none => simp [hk]
    · have := lkM_some ⟨e, now, h, hk⟩
      cases hq : lkM r k with
      | none => exact absurd hq this
      | some v => simp
theorem lkF_some {k : List UInt8} : ∀ {l : List Opr}, (∃ n now, Opr.g k n now ∈ l) → lkF l k ≠ none
  | [], ⟨n, now, h⟩ => by cases h
  | p :: r, ⟨n, now, h⟩ => by
    simp only [lkF]
    rcases List.mem_cons.1 h with rfl | h
    · cases lkF r k with
      | some v => simp
      | none => simp
    · have := lkF_some ⟨n, now, h⟩
      cases hq : lkF r k with
      | none => exact absurd hq this
      | some v => simp
theorem lkM_lasts (k : MK) : ∀ {l : List Opr}, (∀ p ∈ l, p.ok) → lkM (lasts l) k = lkM l k
  | [], _ => rfl
  | p :: r, hok => by
    have ih := lkM_lasts k fun q hq => hok q (List.mem_cons_of_mem _ hq)
    simp only [lasts]
    split
    · simp only [lkM, ih]
    · rename_i hn
      rw [ih]
      simp only [lkM]
      cases hr : lkM r k with
      | some v => rfl
      | none =>
        cases p with
        | g gr n now => rfl
        | o e now =>
          have : k ≠ mkOf e := fun hk => by
            rw [List.all_eq_true] at hn
            refine hn fun q hq => decide_eq_true fun hkey => ?_
            refine lkM_some ?_ hr
            cases q with
            | g gr n now' => exact absurd hkey.symm (key_ne e gr)
            | o e' now' => exact ⟨e', now', hq, by rw [hk]; exact keyO_inj (hok _ List.mem_cons_self) (hok _ (List.mem_cons_of_mem _ hq)) hkey.symm⟩
          simp [this]
theorem lkF_lasts (k : List UInt8) : ∀ {l : List Opr}, (∀ p ∈ l, p.ok) → lkF (lasts l) k = lkF l k
  | [], _ => rfl
  | p :: r, hok => by
    have ih := lkF_lasts k fun q hq => hok q (List.mem_cons_of_mem _ hq)
    simp only [lasts]
    split
    · simp only [lkF, ih]
    · rename_i hn
      rw [ih]
      simp only [lkF]
      cases hr : lkF r k with
      | some v => rfl
      | none =>
        cases p with
        | o e now => rfl
        | g gr n now =>
          have : k ≠ gr := fun hk => by
            rw [List.all_eq_true] at hn
            refine hn fun q hq => decide_eq_true fun hkey => ?_
            refine lkF_some ?_ hr
            cases q with
            | o e' now' => exact absurd hkey (key_ne e' gr)
            | g gr' n' now' =>
              have h1 : mayG gr n = true ∧ 0 < n := hok _ List.mem_cons_self
              have h2 : mayG gr' n' = true ∧ 0 < n' := hok _ (List.mem_cons_of_mem _ hq)
              exact ⟨n', now', by rw [hk, keyG_inj h1.1 h2.1 hkey.symm]; exact hq⟩
          simp [this]
theorem asc_lasts : ∀ {l : List Opr} {f : List (List UInt8 × Int)}, (∀ p ∈ l, p.ok) → (∀ gr n now, Opr.g gr n now ∈ lasts l → findM f gr = none) → AscF (lasts l) f
  | [], _, _, _ => trivial
  | p :: r, f, hok, hf => by
    have hok' : ∀ q ∈ r, q.ok := fun q hq => hok q (List.mem_cons_of_mem _ hq)
    simp only [lasts] at hf ⊢
    split
    · rename_i ha
      rw [if_pos ha] at hf
      rw [List.all_eq_true] at ha
      refine ⟨?_, asc_lasts hok' fun gr n now hm => ?_⟩
      · cases p with
        | o e now => trivial
        | g gr n now =>
          have h1 : mayG gr n = true ∧ 0 < n := hok _ List.mem_cons_self
          show (findM f gr).getD 0 ≤ n
          rw [hf gr n now List.mem_cons_self]
          show (0 : Int) ≤ n
          omega
      · have h0 := hf gr n now (List.mem_cons_of_mem _ hm)
        cases p with
        | o e now' => exact h0
        | g gr' n' now' =>
          show findM (setM f gr' _) gr = none
          rw [find_set, if_neg, h0]
          intro e
          have := of_decide_eq_true (ha _ (lasts_mem hm))
          exact this (by show keyG gr = keyG gr'; rw [e])
    · rename_i ha
      rw [if_neg ha] at hf
      exact asc_lasts hok' hf

/-- The tables are the same. -/
theorem back_m {l : List Opr} (hok : ∀ p ∈ l, p.ok) : eqMp (runM l) (runM (lasts l)) = true :=
  eqMp_of (once_runM _) (once_runM _) fun k => by
    unfold runM
    rw [find_foldM, find_foldM, lkM_lasts k hok]
theorem back_f {l : List Opr} (hok : ∀ p ∈ l, p.ok) (ha : AscF l []) : eqMp (nzM (runF l)) (nzM (runF (lasts l))) = true :=
  eqMp_of (once_filter _ (once_runF _)) (once_filter _ (once_runF _)) fun k => by
    have : findM (runF l) k = findM (runF (lasts l)) k := by
      unfold runF
      rw [find_foldF k ha, find_foldF k (asc_lasts hok fun _ _ _ _ => rfl), lkF_lasts k hok]
    unfold nzM
    rw [find_filter (once_runF _), find_filter (once_runF _), this]
theorem same_m {K : Type} [DecidableEq K] {m : List (K × Int)} (h : OnceM m) : eqMp m m = true := eqMp_of h h fun _ => rfl
end Go.Proofs.Ytlifbhcmihnkpaa.Cm

namespace Go.Proofs.Ytlifbhcmihnkpaa.Cm
set_option maxRecDepth 100000
set_option maxHeartbeats 80000000
open Go.Sym

def ltK (a b : MK) : Bool := if a.1 ≠ b.1 then Op.bytesLess a.1 b.1 else if a.2.1 ≠ b.2.1 then Op.bytesLess a.2.1 b.2.1 else decide (a.2.2 < b.2.2)
theorem bl_irr : ∀ a : List UInt8, Op.bytesLess a a = false
  | [] => rfl
  | x :: a => by simp [Op.bytesLess, bl_irr a]
theorem bl_trans : ∀ {a b c : List UInt8}, Op.bytesLess a b = true → Op.bytesLess b c = true → Op.bytesLess a c = true
  | [], [], _, h, _ => by simp [Op.bytesLess] at h
  | [], _ :: _, [], _, h => by simp [Op.bytesLess] at h
  | [], _ :: _, _ :: _, _, _ => by simp [Op.bytesLess]
  | _ :: _, [], _, h, _ => by simp [Op.bytesLess] at h
  | _ :: _, _ :: _, [], _, h => by simp [Op.bytesLess] at h
  | x :: a, y :: b, z :: c, h1, h2 => by
    simp only [Op.bytesLess, Bool.or_eq_true, decide_eq_true_eq, Bool.and_eq_true, beq_iff_eq] at h1 h2 ⊢
    rcases h1 with h1 | ⟨rfl, h1⟩
    · rcases h2 with h2 | ⟨rfl, h2⟩
      · exact .inl (UInt8.lt_trans h1 h2)
      · exact .inl h1
    · rcases h2 with h2 | ⟨rfl, h2⟩
      · exact .inl h2
      · exact .inr ⟨rfl, bl_trans h1 h2⟩
theorem bl_tot : ∀ {a b : List UInt8}, a ≠ b → Op.bytesLess a b = true ∨ Op.bytesLess b a = true
  | [], [], h => absurd rfl h
  | [], _ :: _, _ => by simp [Op.bytesLess]
  | _ :: _, [], _ => by simp [Op.bytesLess]
  | x :: a, y :: b, h => by
    simp only [Op.bytesLess, Bool.or_eq_true, decide_eq_true_eq, Bool.and_eq_true, beq_iff_eq]
    by_cases e : x = y
    · subst e
      rcases bl_tot (a := a) (b := b) (fun e => h (by rw [e])) with k | k
      · exact .inl (.inr ⟨rfl, k⟩)
      · exact .inr (.inr ⟨rfl, k⟩)
    · rcases UInt8.lt_or_lt_of_ne e with k | k
      · exact .inl (.inl k)
      · exact .inr (.inl k)
theorem ltK_irr (a : MK) : ltK a a = false := by simp [ltK]
theorem ltK_trans {a b c : MK} (h1 : ltK a b = true) (h2 : ltK b c = true) : ltK a c = true := by
  obtain ⟨a1, a2, a3⟩ := a
  obtain ⟨b1, b2, b3⟩ := b
  obtain ⟨c1, c2, c3⟩ := c
  unfold ltK at *
  dsimp only at *
  by_cases e1 : a1 = b1
  · subst e1
    by_cases e2 : a1 = c1
    · subst e2
      simp only [ne_eq, not_true_eq_false, if_false] at *
      by_cases f1 : a2 = b2
      · subst f1
        by_cases f2 : a2 = c2
        · subst f2
          simp only [ne_eq, not_true_eq_false, if_false, decide_eq_true_eq] at *
          omega
        · rw [if_pos f2] at *; exact h2
      · rw [if_pos f1] at h1
        by_cases f2 : b2 = c2
        · subst f2; rw [if_pos f1]; exact h1
        · rw [if_pos f2] at h2
          have := bl_trans h1 h2
          rw [if_pos]
          · exact this
          · rintro rfl; rw [bl_irr] at this; cases this
    · rw [if_pos e2] at *; exact h2
  · rw [if_pos e1] at h1
    by_cases e2 : b1 = c1
    · subst e2; rw [if_pos e1]; exact h1
    · rw [if_pos e2] at h2
      have := bl_trans h1 h2
      rw [if_pos]
      · exact this
      · rintro rfl; rw [bl_irr] at this; cases this
theorem ltK_tot {a b : MK} (h : a ≠ b) : ltK a b = true ∨ ltK b a = true := by
  obtain ⟨a1, a2, a3⟩ := a
  obtain ⟨b1, b2, b3⟩ := b
  unfold ltK
  dsimp only
  by_cases e1 : a1 = b1
  · subst e1
    simp only [ne_eq, not_true_eq_false, if_false]
    by_cases f1 : a2 = b2
    · subst f1
      simp only [not_true_eq_false, if_false, decide_eq_true_eq]
      have : a3 ≠ b3 := fun e => h (by rw [e])
      omega
    · rw [if_pos f1, if_pos (fun e => f1 e.symm)]; exact bl_tot f1
  · rw [if_pos e1, if_pos (fun e => e1 e.symm)]; exact bl_tot e1
theorem ltK_ne {a b : MK} (h : ltK a b = true) : a ≠ b := by rintro rfl; rw [ltK_irr] at h; cases h
theorem ltK_asym {a b : MK} (h : ltK a b = true) : ltK b a = false := by
  rw [Bool.eq_false_iff]; intro k; have := ltK_trans h k; rw [ltK_irr] at this; cases this

/-- How many entries are below. -/
def below (k : MK) : List Ent → Nat
  | [] => 0
  | x :: l => if ltK (mkOf x) k then below k l + 1 else 0
def isAt (k : MK) (l : List Ent) : Bool := match l[below k l]? with | some x => !(ltK k (mkOf x)) | none => false
theorem below_le (k : MK) : ∀ l : List Ent, below k l ≤ l.length
  | [] => Nat.le_refl _
  | x :: l => by
    have := below_le k l
    unfold below
    split
    · simp only [List.length_cons]; omega
    · exact Nat.zero_le _
structure FnI (k : MK) (l : List Ent) where
  i : Nat
  hi : i ≤ below k l
theorem below_lt {k : MK} : ∀ {l : List Ent} {i : Nat} {x : Ent}, l[i]? = some x → i ≤ below k l → (ltK (mkOf x) k = true ↔ i < below k l)
  | [], i, x, h, _ => by simp at h
  | y :: l, 0, x, h, _ => by
    simp only [List.getElem?_cons_zero, Option.some.injEq] at h
    subst h
    unfold below
    by_cases q : ltK (mkOf y) k = true
    · rw [if_pos q]; simp [q]
    · rw [if_neg q]; simp [q]
  | y :: l, i + 1, x, h, hle => by
    rw [List.getElem?_cons_succ] at h
    unfold below at hle ⊢
    by_cases q : ltK (mkOf y) k = true
    · rw [if_pos q] at hle ⊢
      rw [below_lt h (by omega)]
      omega
    · rw [if_neg q] at hle; omega

/-- An entry put where it stands, or would. -/
def putL (e : Ent) (l : List Ent) : List Ent := l.take (below (mkOf e) l) ++ [e] ++ l.drop (below (mkOf e) l + if isAt (mkOf e) l then 1 else 0)
theorem isAt_lt {k : MK} {l : List Ent} (h : isAt k l = true) : below k l < l.length := by
  unfold isAt at h
  split at h
  · rename_i x hx
    exact (List.getElem?_eq_some_iff.1 hx).1
  · cases h
/-- An entry taken away. -/
def dropL (k : MK) (l : List Ent) : List Ent := if isAt k l then l.take (below k l) ++ l.drop (below k l + 1) else l
def lkL : List Ent → MK → Option Int
  | [], _ => none
  | x :: l, k => if k = mkOf x then some x.o else lkL l k
def Srt (l : List Ent) : Prop := l.Pairwise fun a b => ltK (mkOf a) (mkOf b) = true

theorem isAt_cons (k : MK) (x : Ent) (l : List Ent) : isAt k (x :: l) = if ltK (mkOf x) k then isAt k l else !(ltK k (mkOf x)) := by
  unfold isAt
  by_cases h : ltK (mkOf x) k = true
  · simp only [below, h, if_true, List.getElem?_cons_succ]
  · simp only [below, h, if_false, Bool.false_eq_true, List.getElem?_cons_zero]
theorem putL_nil (e : Ent) : putL e [] = [e] := by simp [putL, below]
theorem putL_cons (e x : Ent) (l : List Ent) : putL e (x :: l) = if ltK (mkOf x) (mkOf e) then x :: putL e l else if ltK (mkOf e) (mkOf x) then e :: x :: l else e :: l := by
  unfold putL
  rw [isAt_cons]
  by_cases h : ltK (mkOf x) (mkOf e) = true
  · simp only [below, h, if_true, List.take_succ_cons, List.cons_append, List.cons.injEq, true_and]
    rw [Nat.add_right_comm, List.drop_succ_cons]
  · by_cases h2 : ltK (mkOf e) (mkOf x) = true
    · simp [below, h, h2]
    · simp [below, h, h2]
theorem dropL_nil (k : MK) : dropL k [] = [] := by simp [dropL]
theorem dropL_cons (k : MK) (x : Ent) (l : List Ent) : dropL k (x :: l) = if ltK (mkOf x) k then x :: dropL k l else if ltK k (mkOf x) then x :: l else l := by
  unfold dropL
  rw [isAt_cons]
  by_cases h : ltK (mkOf x) k = true
  · simp only [below, h, if_true, List.take_succ_cons, List.cons_append, List.drop_succ_cons]
    split <;> rfl
  · by_cases h2 : ltK k (mkOf x) = true
    · simp [below, h, h2]
    · simp [below, h, h2]
theorem eq_of_not {a b : MK} (h1 : ¬ ltK a b = true) (h2 : ¬ ltK b a = true) : a = b := by
  by_cases e : a = b
  · exact e
  · rcases ltK_tot e with k | k
    · exact absurd k h1
    · exact absurd k h2
theorem lk_put (e : Ent) (k : MK) : ∀ l : List Ent, lkL (putL e l) k = if k = mkOf e then some e.o else lkL l k
  | [] => by rw [putL_nil]; rfl
  | x :: l => by
    rw [putL_cons]
    by_cases h : ltK (mkOf x) (mkOf e) = true
    · rw [if_pos h]
      simp only [lkL, lk_put e k l]
      by_cases h1 : k = mkOf x
      · rw [if_pos h1, if_pos h1, if_neg (fun h2 => ltK_ne h (h1.symm.trans h2))]
      · rw [if_neg h1, if_neg h1]
    · rw [if_neg h]
      by_cases h2 : ltK (mkOf e) (mkOf x) = true
      · rw [if_pos h2]; simp only [lkL]
      · rw [if_neg h2]
        have := eq_of_not h h2
        simp only [lkL, this]
        by_cases h3 : k = mkOf e
        · rw [if_pos h3, if_pos h3]
        · rw [if_neg h3, if_neg h3, if_neg h3]
theorem mem_put {e y : Ent} : ∀ {l : List Ent}, y ∈ putL e l → y = e ∨ y ∈ l
  | [], h => by rw [putL_nil] at h; exact .inl (by simpa using h)
  | x :: l, h => by
    rw [putL_cons] at h
    split at h
    · rcases List.mem_cons.1 h with rfl | h
      · exact .inr List.mem_cons_self
      · rcases mem_put h with h | h
        · exact .inl h
        · exact .inr (List.mem_cons_of_mem _ h)
    · split at h
      · rcases List.mem_cons.1 h with h | h
        · exact .inl h
        · exact .inr h
      · rcases List.mem_cons.1 h with h | h
        · exact .inl h
        · exact .inr (List.mem_cons_of_mem _ h)
theorem srt_put (e : Ent) : ∀ {l : List Ent}, Srt l → Srt (putL e l)
  | [], _ => by rw [putL_nil]; exact List.pairwise_singleton _ _
  | x :: l, h => by
    obtain ⟨h1, h2⟩ := List.pairwise_cons.1 h
    rw [putL_cons]
    split
    · rename_i hx
      refine List.pairwise_cons.2 ⟨fun y hy => ?_, srt_put e h2⟩
      rcases mem_put hy with rfl | hy
      · exact hx
      · exact h1 y hy
    · rename_i hx
      split
      · rename_i hy
        refine List.pairwise_cons.2 ⟨fun y hy' => ?_, h⟩
        rcases List.mem_cons.1 hy' with rfl | hy'
        · exact hy
        · exact ltK_trans hy (h1 y hy')
      · rename_i hy
        have := eq_of_not hx hy
        refine List.pairwise_cons.2 ⟨fun y hy' => ?_, h2⟩
        rw [← this]; exact h1 y hy'
theorem mem_drop {k : MK} {y : Ent} : ∀ {l : List Ent}, y ∈ dropL k l → y ∈ l
  | [], h => by rw [dropL_nil] at h; exact h
  | x :: l, h => by
    rw [dropL_cons] at h
    split at h
    · rcases List.mem_cons.1 h with rfl | h
      · exact List.mem_cons_self
      · exact List.mem_cons_of_mem _ (mem_drop h)
    · split at h
      · exact h
      · exact List.mem_cons_of_mem _ h
theorem srt_drop (k : MK) : ∀ {l : List Ent}, Srt l → Srt (dropL k l)
  | [], h => by rw [dropL_nil]; exact h
  | x :: l, h => by
    obtain ⟨h1, h2⟩ := List.pairwise_cons.1 h
    rw [dropL_cons]
    split
    · exact List.pairwise_cons.2 ⟨fun y hy => h1 y (mem_drop hy), srt_drop k h2⟩
    · split
      · exact h
      · exact h2
theorem lk_none {k : MK} : ∀ {l : List Ent}, (∀ y ∈ l, ltK k (mkOf y) = true) → lkL l k = none
  | [], _ => rfl
  | x :: l, h => by
    simp only [lkL]
    rw [if_neg (ltK_ne (h x List.mem_cons_self)), lk_none fun y hy => h y (List.mem_cons_of_mem _ hy)]
theorem lk_drop (k k' : MK) : ∀ {l : List Ent}, Srt l → lkL (dropL k l) k' = if k' = k then none else lkL l k'
  | [], _ => by rw [dropL_nil]; simp [lkL]
  | x :: l, h => by
    obtain ⟨h1, h2⟩ := List.pairwise_cons.1 h
    rw [dropL_cons]
    by_cases hx : ltK (mkOf x) k = true
    · rw [if_pos hx]
      simp only [lkL, lk_drop k k' h2]
      by_cases e : k' = k
      · rw [if_pos e, if_pos e, if_neg (fun h => ltK_ne hx (by rw [← h, e]))]
      · rw [if_neg e, if_neg e]
    · rw [if_neg hx]
      by_cases hy : ltK k (mkOf x) = true
      · rw [if_pos hy]
        by_cases e : k' = k
        · rw [if_pos e, e]
          exact lk_none fun y hy' => by
            rcases List.mem_cons.1 hy' with rfl | hy'
            · exact hy
            · exact ltK_trans hy (h1 y hy')
        · rw [if_neg e]
      · rw [if_neg hy]
        have hk := eq_of_not hx hy
        by_cases e : k' = k
        · rw [if_pos e, e, ← hk]; exact lk_none h1
        · rw [if_neg e]
          simp only [lkL]
          rw [if_neg (fun h => e (by rw [h, hk]))]
theorem lk_at {k : MK} : ∀ {l : List Ent}, Srt l → (isAt k l = true → ∃ x, l[below k l]? = some x ∧ lkL l k = some x.o) ∧ (isAt k l = false → lkL l k = none)
  | [], _ => ⟨fun h => by simp [isAt, below] at h, fun _ => rfl⟩
  | x :: l, h => by
    obtain ⟨h1, h2⟩ := List.pairwise_cons.1 h
    rw [isAt_cons]
    by_cases hx : ltK (mkOf x) k = true
    · rw [if_pos hx]
      obtain ⟨i1, i2⟩ := lk_at (k := k) h2
      have ne : ¬ k = mkOf x := fun e => ltK_ne hx e.symm
      simp only [below, hx, if_true, List.getElem?_cons_succ, lkL, if_neg ne]
      exact ⟨i1, i2⟩
    · rw [if_neg hx]
      by_cases hy : ltK k (mkOf x) = true
      · rw [hy]
        refine ⟨fun h => by simp at h, fun _ => lk_none fun y hy' => ?_⟩
        rcases List.mem_cons.1 hy' with rfl | hy'
        · exact hy
        · exact ltK_trans hy (h1 y hy')
      · have hk := eq_of_not hx hy
        refine ⟨fun _ => ⟨x, ?_, ?_⟩, fun h => by simp [hy] at h⟩
        · simp [below, hx]
        · simp only [lkL, if_pos hk.symm]
theorem lk_mem : ∀ {l : List Ent}, Srt l → ∀ {x : Ent}, x ∈ l → lkL l (mkOf x) = some x.o
  | y :: l, h, x, hx => by
    obtain ⟨h1, h2⟩ := List.pairwise_cons.1 h
    simp only [lkL]
    rcases List.mem_cons.1 hx with rfl | hx
    · rw [if_pos rfl]
    · rw [if_neg (fun e => ltK_ne (h1 x hx) e.symm), lk_mem h2 hx]
theorem lk_some {k : MK} {v : Int} : ∀ {l : List Ent}, lkL l k = some v → ∃ x ∈ l, mkOf x = k
  | [], h => by cases h
  | y :: l, h => by
    simp only [lkL] at h
    by_cases e : k = mkOf y
    · exact ⟨y, List.mem_cons_self, e.symm⟩
    · rw [if_neg e] at h
      obtain ⟨x, hx, e⟩ := lk_some h
      exact ⟨x, List.mem_cons_of_mem _ hx, e⟩

/-- The two tables hold the same entries. -/
structure RelM (l : List Ent) (m : List (MK × Int)) : Prop where
  srt : Srt l
  once : OnceM m
  look : ∀ k, findM m k = lkL l k
theorem RelM.put {l : List Ent} {m : List (MK × Int)} (r : RelM l m) (e : Ent) : RelM (putL e l) (setM m (mkOf e) e.o) :=
  ⟨srt_put e r.srt, once_set _ _ r.once, fun k => by rw [find_set, lk_put, r.look]⟩
theorem once_del {K : Type} [DecidableEq K] (k : K) : ∀ {m : List (K × Int)}, OnceM m → OnceM (delM m k)
  | [], _ => trivial
  | (a, x) :: r, ⟨h1, h2⟩ => by
    simp only [delM]
    by_cases h : k = a
    · rw [if_pos h]; exact h2
    · rw [if_neg h]
      exact ⟨by rw [find_del k a h2, if_neg (fun e => h e.symm)]; exact h1, once_del k h2⟩
theorem RelM.drop {l : List Ent} {m : List (MK × Int)} (r : RelM l m) (k : MK) : RelM (dropL k l) (delM m k) :=
  ⟨srt_drop k r.srt, once_del _ r.once, fun k' => by rw [find_del k k' r.once, lk_drop k k' r.srt, r.look]⟩

theorem find_mem {K : Type} [DecidableEq K] {k : K} : ∀ {m : List (K × Int)}, findM m k ≠ none ↔ k ∈ m.map (·.1)
  | [] => by simp [findM]
  | (a, x) :: r => by
    simp only [findM, List.map_cons, List.mem_cons]
    by_cases h : k = a
    · simp [h]
    · rw [if_neg h, find_mem]; simp [h]
theorem srt_ext : ∀ {a b : List MK}, a.Pairwise (fun x y => ltK x y = true) → b.Pairwise (fun x y => ltK x y = true) → (∀ k, k ∈ a ↔ k ∈ b) → a = b
  | [], [], _, _, _ => rfl
  | [], y :: b, _, _, h => absurd ((h y).2 List.mem_cons_self) (by simp)
  | x :: a, [], _, _, h => absurd ((h x).1 List.mem_cons_self) (by simp)
  | x :: a, y :: b, ha, hb, h => by
    obtain ⟨a1, a2⟩ := List.pairwise_cons.1 ha
    obtain ⟨b1, b2⟩ := List.pairwise_cons.1 hb
    have e : x = y := by
      rcases List.mem_cons.1 ((h x).1 List.mem_cons_self) with e | k1
      · exact e
      · rcases List.mem_cons.1 ((h y).2 List.mem_cons_self) with e | k2
        · exact e.symm
        · have := ltK_asym (a1 y k2); rw [b1 x k1] at this; cases this
    subst e
    rw [srt_ext a2 b2 fun k => ?_]
    have := h k
    simp only [List.mem_cons] at this
    constructor
    · intro hk
      rcases this.1 (.inr hk) with e | e
      · subst e; exact absurd rfl (ltK_ne (a1 k hk))
      · exact e
    · intro hk
      rcases this.2 (.inr hk) with e | e
      · subst e; exact absurd rfl (ltK_ne (b1 k hk))
      · exact e
/-- The keys in order are the document's. -/
theorem RelM.keys {l : List Ent} {m : List (MK × Int)} (r : RelM l m) {ks : List MK} (hp : ks.Perm (m.map (·.1))) (hs : ks.Pairwise fun x y => ltK x y = true) : ks = l.map mkOf := by
  refine srt_ext hs (List.pairwise_map.2 r.srt) fun k => ?_
  rw [hp.mem_iff, ← find_mem, r.look, List.mem_map]
  constructor
  · intro h
    cases e : lkL l k with
    | none => exact absurd e h
    | some v => exact lk_some e
  · rintro ⟨x, hx, rfl⟩
    rw [lk_mem r.srt hx]; simp
theorem RelM.at {l : List Ent} {m : List (MK × Int)} (r : RelM l m) {i : Nat} {x : Ent} (hx : l[i]? = some x) : (findM m (mkOf x)).getD 0 = x.o := by
  rw [r.look, lk_mem r.srt (List.mem_of_getElem? hx)]; rfl

/-- Floors. -/
def flOf : List (List UInt8 × Int) → List UInt8 → Int
  | [], _ => 0
  | (a, n) :: r, g => if a = g then n else flOf r g
def flPut (F : List (List UInt8 × Int)) (g : List UInt8) (n : Int) : List (List UInt8 × Int) := F.filter (fun x => decide (x.1 ≠ g)) ++ if n > 0 then [(g, n)] else []
theorem fl_filter (g g' : List UInt8) (n : Int) : ∀ F : List (List UInt8 × Int), flOf (F.filter (fun x => decide (x.1 ≠ g)) ++ if n > 0 then [(g, n)] else []) g' = if g' = g then (if n > 0 then n else 0) else flOf F g'
  | [] => by
    by_cases h : n > 0
    · simp only [List.filter_nil, List.nil_append, if_pos h, flOf]
      by_cases e : g' = g
      · rw [if_pos e, if_pos e.symm]
      · rw [if_neg e, if_neg (fun h => e h.symm)]
    · simp only [List.filter_nil, List.nil_append, if_neg h, flOf, ite_self]
  | (a, x) :: r => by
    have ih := fl_filter g g' n r
    by_cases h : a = g
    · subst h
      rw [List.filter_cons, if_neg (by simp), ih]
      simp only [flOf]
      by_cases e : g' = a
      · rw [if_pos e, if_pos e]
      · rw [if_neg e, if_neg e, if_neg (fun h => e h.symm)]
    · rw [List.filter_cons, if_pos (by simp [h]), List.cons_append]
      simp only [flOf, ih]
      by_cases e : a = g'
      · subst e
        rw [if_pos rfl, if_neg h, if_pos rfl]
      · rw [if_neg e, if_neg e]
structure RelF (F f : List (List UInt8 × Int)) : Prop where
  once : OnceM f
  look : ∀ g, flOf F g = (findM f g).getD 0
  pos : ∀ g, 0 ≤ flOf F g
theorem RelF.gen {F f : List (List UInt8 × Int)} (r : RelF F f) (g : List UInt8) (n : Int) (hn : 0 ≤ n) : RelF (flPut F g (max n (flOf F g))) (setM f g (max ((findM f g).getD 0) n)) := by
  have h0 := r.pos g
  refine ⟨once_set _ _ r.once, fun g' => ?_, fun g' => ?_⟩
  · unfold flPut
    rw [fl_filter, find_set]
    by_cases e : g' = g
    · rw [if_pos e, if_pos e, ← r.look]
      show _ = max (flOf F g) n
      split <;> omega
    · rw [if_neg e, if_neg e, r.look]
  · unfold flPut
    rw [fl_filter]
    split
    · split <;> omega
    · exact r.pos g'
theorem RelF.del {F f : List (List UInt8 × Int)} (r : RelF F f) (g : List UInt8) : RelF (flPut F g 0) (delM f g) := by
  refine ⟨once_del _ r.once, fun g' => ?_, fun g' => ?_⟩
  · unfold flPut
    rw [fl_filter, find_del g g' r.once]
    by_cases e : g' = g
    · rw [if_pos e, if_pos e]; rfl
    · rw [if_neg e, if_neg e, r.look]
  · unfold flPut
    rw [fl_filter]
    split
    · simp
    · exact r.pos g'
theorem RelF.nil : RelF [] [] := ⟨trivial, fun _ => rfl, fun _ => Int.le_refl _⟩
theorem RelM.nil : RelM [] [] := ⟨List.Pairwise.nil, trivial, fun _ => rfl⟩
end Go.Proofs.Ytlifbhcmihnkpaa.Cm

namespace Go.Proofs.Ytlifbhcmihnkpaa.Cm
set_option maxRecDepth 100000
set_option maxHeartbeats 80000000
open Go.Sym

def cS (a b : List UInt8) : Int := if Op.bytesLess a b = true then -1 else if a = b then 0 else 1
def cI (a b : Int) : Int := if a < b then -1 else if b < a then 1 else 0
def or3 (a b c : Int) : Int := if a ≠ 0 then a else if b ≠ 0 then b else c
def cK (a b : MK) : Int := or3 (cS a.1 b.1) (cS a.2.1 b.2.1) (cI a.2.2 b.2.2)
theorem nanI {a : Int} : CallOK Try.prog 152 [.int .i64 a] [] 0 (Out (.bool false) [] 0) := by
  refine callOK Try.call152 Try.func152 Try.ntmps152 rfl ?_
  (conv => arg 4; whnf); repeat (refine ⟨rfl, ?_⟩; conv => arg 4; whnf)
  exact ⟨by simp, rfl, rfl⟩
theorem nanS {a : List UInt8} : CallOK Try.prog 151 [.str a] [] 0 (Out (.bool false) [] 0) := by
  refine callOK Try.call151 Try.func151 Try.ntmps151 rfl ?_
  (conv => arg 4; whnf); repeat (refine ⟨rfl, ?_⟩; conv => arg 4; whnf)
  exact ⟨by simp, rfl, rfl⟩
theorem cmpI {a b : Int} : CallOK Try.prog 143 [.int .i64 a, .int .i64 b] [] 0 (Out (.int .i64 (cI a b)) [] 0) := by
  refine CallOK.fit (by decide) ?_
  refine callOK Try.call143 Try.func143 Try.ntmps143 rfl ?_
  (conv => arg 4; whnf); repeat (refine ⟨rfl, ?_⟩; conv => arg 4; whnf)
  refine call0 nanI (by (repeat' (first | with_reducible assumption | exact ClL.nil | exact Cl.int _ _ | exact Cl.bool _ | exact Cl.bl _ | exact Cl.bs _ | exact Cl.str _ | exact Cl.nils | exact Cl.nilp | exact Cl.rec _ | exact Cl.bat _ | exact Cl.recsV _ | exact Cl.strsV _ | exact Cl.intsV _ | exact Cl.req _ | exact Cl.rsp _ | exact Cl.reqA _ | exact Cl.rspA _ | exact Cl.batsV _ | exact Cl.prsV _ | exact Cl.atsV _ | exact Cl.entA _ _ | exact Cl.ent _ | exact Cl.rr _ _ | exact Cl.foundA _ | exact Cl.getB _ | exact Cl.encA _ | exact Cl.firstA _ | refine ClL.cons ?_ ?_ | refine Cl.tup ?_ | refine Cl.agg ?_ | exact ClO.RO _ _))) (by (repeat' (first | with_reducible assumption | exact ClL.nil | exact Cl.int _ _ | exact Cl.bool _ | exact Cl.bl _ | exact Cl.bs _ | exact Cl.str _ | exact Cl.nils | exact Cl.nilp | exact Cl.rec _ | exact Cl.bat _ | exact Cl.recsV _ | exact Cl.strsV _ | exact Cl.intsV _ | exact Cl.req _ | exact Cl.rsp _ | exact Cl.reqA _ | exact Cl.rspA _ | exact Cl.batsV _ | exact Cl.prsV _ | exact Cl.atsV _ | exact Cl.entA _ _ | exact Cl.ent _ | exact Cl.rr _ _ | exact Cl.foundA _ | exact Cl.getB _ | exact Cl.encA _ | exact Cl.firstA _ | refine ClL.cons ?_ ?_ | refine Cl.tup ?_ | refine Cl.agg ?_ | exact ClO.RO _ _))) ?_
  (conv => arg 4; whnf); repeat (refine ⟨rfl, ?_⟩; conv => arg 4; whnf)
  refine call0 nanI (by (repeat' (first | with_reducible assumption | exact ClL.nil | exact Cl.int _ _ | exact Cl.bool _ | exact Cl.bl _ | exact Cl.bs _ | exact Cl.str _ | exact Cl.nils | exact Cl.nilp | exact Cl.rec _ | exact Cl.bat _ | exact Cl.recsV _ | exact Cl.strsV _ | exact Cl.intsV _ | exact Cl.req _ | exact Cl.rsp _ | exact Cl.reqA _ | exact Cl.rspA _ | exact Cl.batsV _ | exact Cl.prsV _ | exact Cl.atsV _ | exact Cl.entA _ _ | exact Cl.ent _ | exact Cl.rr _ _ | exact Cl.foundA _ | exact Cl.getB _ | exact Cl.encA _ | exact Cl.firstA _ | refine ClL.cons ?_ ?_ | refine Cl.tup ?_ | refine Cl.agg ?_ | exact ClO.RO _ _))) (by (repeat' (first | with_reducible assumption | exact ClL.nil | exact Cl.int _ _ | exact Cl.bool _ | exact Cl.bl _ | exact Cl.bs _ | exact Cl.str _ | exact Cl.nils | exact Cl.nilp | exact Cl.rec _ | exact Cl.bat _ | exact Cl.recsV _ | exact Cl.strsV _ | exact Cl.intsV _ | exact Cl.req _ | exact Cl.rsp _ | exact Cl.reqA _ | exact Cl.rspA _ | exact Cl.batsV _ | exact Cl.prsV _ | exact Cl.atsV _ | exact Cl.entA _ _ | exact Cl.ent _ | exact Cl.rr _ _ | exact Cl.foundA _ | exact Cl.getB _ | exact Cl.encA _ | exact Cl.firstA _ | refine ClL.cons ?_ ?_ | refine Cl.tup ?_ | refine Cl.agg ?_ | exact ClO.RO _ _))) ?_
  (conv => arg 4; whnf); repeat (refine ⟨rfl, ?_⟩; conv => arg 4; whnf)
  refine ⟨fun h => absurd h (by first | (simp; done) | (simp [u8s]; done)), fun _ => ?_⟩
  conv => arg 4; whnf
  refine ⟨fun h => absurd h (by first | (simp; done) | (simp [u8s]; done)), fun _ => ?_⟩
  conv => arg 4; whnf
  refine ⟨fun h => ?_, fun h => ?_⟩
  · have h : a < b := by simpa using h
    unfold cI
    rw [if_pos h]
    (conv => arg 4; whnf); repeat (refine ⟨rfl, ?_⟩; conv => arg 4; whnf)
    exact ⟨by decide, Le.refl _ _, trivial, (Cl.int _ _) _, trivial⟩
  · have h : ¬ (a < b) := by simpa using h
    unfold cI
    rw [if_neg h]
    (conv => arg 4; whnf); repeat (refine ⟨rfl, ?_⟩; conv => arg 4; whnf)
    refine ⟨fun h2 => ?_, fun h2 => ?_⟩
    · have h2 : b < a := by simpa using h2
      rw [if_pos h2]
      (conv => arg 4; whnf); repeat (refine ⟨rfl, ?_⟩; conv => arg 4; whnf)
      exact ⟨by decide, Le.refl _ _, trivial, (Cl.int _ _) _, trivial⟩
    · have h2 : ¬ (b < a) := by simpa using h2
      rw [if_neg h2]
      (conv => arg 4; whnf); repeat (refine ⟨rfl, ?_⟩; conv => arg 4; whnf)
      exact ⟨by decide, Le.refl _ _, trivial, (Cl.int _ _) _, trivial⟩
theorem cmpS {a b : List UInt8} : CallOK Try.prog 142 [.str a, .str b] [] 0 (Out (.int .i64 (cS a b)) [] 0) := by
  refine CallOK.fit (by decide) ?_
  refine callOK Try.call142 Try.func142 Try.ntmps142 rfl ?_
  (conv => arg 4; whnf); repeat (refine ⟨rfl, ?_⟩; conv => arg 4; whnf)
  refine call0 nanS (by (repeat' (first | with_reducible assumption | exact ClL.nil | exact Cl.int _ _ | exact Cl.bool _ | exact Cl.bl _ | exact Cl.bs _ | exact Cl.str _ | exact Cl.nils | exact Cl.nilp | exact Cl.rec _ | exact Cl.bat _ | exact Cl.recsV _ | exact Cl.strsV _ | exact Cl.intsV _ | exact Cl.req _ | exact Cl.rsp _ | exact Cl.reqA _ | exact Cl.rspA _ | exact Cl.batsV _ | exact Cl.prsV _ | exact Cl.atsV _ | exact Cl.entA _ _ | exact Cl.ent _ | exact Cl.rr _ _ | exact Cl.foundA _ | exact Cl.getB _ | exact Cl.encA _ | exact Cl.firstA _ | refine ClL.cons ?_ ?_ | refine Cl.tup ?_ | refine Cl.agg ?_ | exact ClO.RO _ _))) (by (repeat' (first | with_reducible assumption | exact ClL.nil | exact Cl.int _ _ | exact Cl.bool _ | exact Cl.bl _ | exact Cl.bs _ | exact Cl.str _ | exact Cl.nils | exact Cl.nilp | exact Cl.rec _ | exact Cl.bat _ | exact Cl.recsV _ | exact Cl.strsV _ | exact Cl.intsV _ | exact Cl.req _ | exact Cl.rsp _ | exact Cl.reqA _ | exact Cl.rspA _ | exact Cl.batsV _ | exact Cl.prsV _ | exact Cl.atsV _ | exact Cl.entA _ _ | exact Cl.ent _ | exact Cl.rr _ _ | exact Cl.foundA _ | exact Cl.getB _ | exact Cl.encA _ | exact Cl.firstA _ | refine ClL.cons ?_ ?_ | refine Cl.tup ?_ | refine Cl.agg ?_ | exact ClO.RO _ _))) ?_
  (conv => arg 4; whnf); repeat (refine ⟨rfl, ?_⟩; conv => arg 4; whnf)
  refine call0 nanS (by (repeat' (first | with_reducible assumption | exact ClL.nil | exact Cl.int _ _ | exact Cl.bool _ | exact Cl.bl _ | exact Cl.bs _ | exact Cl.str _ | exact Cl.nils | exact Cl.nilp | exact Cl.rec _ | exact Cl.bat _ | exact Cl.recsV _ | exact Cl.strsV _ | exact Cl.intsV _ | exact Cl.req _ | exact Cl.rsp _ | exact Cl.reqA _ | exact Cl.rspA _ | exact Cl.batsV _ | exact Cl.prsV _ | exact Cl.atsV _ | exact Cl.entA _ _ | exact Cl.ent _ | exact Cl.rr _ _ | exact Cl.foundA _ | exact Cl.getB _ | exact Cl.encA _ | exact Cl.firstA _ | refine ClL.cons ?_ ?_ | refine Cl.tup ?_ | refine Cl.agg ?_ | exact ClO.RO _ _))) (by (repeat' (first | with_reducible assumption | exact ClL.nil | exact Cl.int _ _ | exact Cl.bool _ | exact Cl.bl _ | exact Cl.bs _ | exact Cl.str _ | exact Cl.nils | exact Cl.nilp | exact Cl.rec _ | exact Cl.bat _ | exact Cl.recsV _ | exact Cl.strsV _ | exact Cl.intsV _ | exact Cl.req _ | exact Cl.rsp _ | exact Cl.reqA _ | exact Cl.rspA _ | exact Cl.batsV _ | exact Cl.prsV _ | exact Cl.atsV _ | exact Cl.entA _ _ | exact Cl.ent _ | exact Cl.rr _ _ | exact Cl.foundA _ | exact Cl.getB _ | exact Cl.encA _ | exact Cl.firstA _ | refine ClL.cons ?_ ?_ | refine Cl.tup ?_ | refine Cl.agg ?_ | exact ClO.RO _ _))) ?_
  (conv => arg 4; whnf); repeat (refine ⟨rfl, ?_⟩; conv => arg 4; whnf)
  refine ⟨fun h => absurd h (by first | (simp; done) | (simp [u8s]; done)), fun _ => ?_⟩
  conv => arg 4; whnf
  refine ⟨fun h => absurd h (by first | (simp; done) | (simp [u8s]; done)), fun _ => ?_⟩
  conv => arg 4; whnf
  refine ⟨fun h => ?_, fun h => ?_⟩
  · have h : Op.bytesLess a b = true := by simpa using h
    unfold cS
    rw [if_pos h]
    (conv => arg 4; whnf); repeat (refine ⟨rfl, ?_⟩; conv => arg 4; whnf)
    exact ⟨by decide, Le.refl _ _, trivial, (Cl.int _ _) _, trivial⟩
  · have h : ¬ (Op.bytesLess a b = true) := by simpa using h
    unfold cS
    rw [if_neg h]
    (conv => arg 4; whnf); repeat (refine ⟨rfl, ?_⟩; conv => arg 4; whnf)
    refine ⟨fun h2 => ?_, fun h2 => ?_⟩
    · have h2 : ¬ a = b := by simp at h2; exact h2.2
      rw [if_neg h2]
      (conv => arg 4; whnf); repeat (refine ⟨rfl, ?_⟩; conv => arg 4; whnf)
      exact ⟨by decide, Le.refl _ _, trivial, (Cl.int _ _) _, trivial⟩
    · have h2 : a = b := by simp [h] at h2; exact h2
      rw [if_pos h2]
      (conv => arg 4; whnf); repeat (refine ⟨rfl, ?_⟩; conv => arg 4; whnf)
      exact ⟨by decide, Le.refl _ _, trivial, (Cl.int _ _) _, trivial⟩
structure OrI (a b c : Int) where
  i : Nat
  hi : i ≤ 3
  z : ∀ j x, j < i → [a, b, c][j]? = some x → x = 0
theorem OrI.got {a b c : Int} (y : OrI a b c) (hi : y.i < 3) (h : [a, b, c][y.i] ≠ 0) : [a, b, c][y.i] = or3 a b c := by
  unfold or3
  have hh : y.i = 0 ∨ y.i = 1 ∨ y.i = 2 := by omega
  rcases hh with e | e | e
  · simp only [e] at h ⊢
    exact (if_pos h).symm
  · have h1 := y.z 0 a (by omega) rfl
    simp only [e] at h ⊢
    rw [if_neg (by simp [h1])]
    exact (if_pos h).symm
  · have h1 := y.z 0 a (by omega) rfl
    have h2 := y.z 1 b (by omega) rfl
    simp only [e] at h ⊢
    rw [if_neg (by simp [h1]), if_neg (by simp [h2])]; rfl
theorem cmpOr {a b c : Int} : CallOK Try.prog 141 [.sl .none 0 [.int .i64 a, .int .i64 b, .int .i64 c]] [] 0 (Out (.int .i64 (or3 a b c)) [] 0) := by
  refine CallOK.fit (by decide) ?_
  refine callOK Try.call141 Try.func141 Try.ntmps141 rfl ?_
  (conv => arg 4; whnf); repeat (refine ⟨rfl, ?_⟩; conv => arg 4; whnf)
  refine tri_loopG (ι := OrI a b c) (fun x => ⟨[(8, .int .i64 x.i), (7, .int .i64 3), (6, .sl .none 0 [.int .i64 a, .int .i64 b, .int .i64 c]), (3, .int .i64 0)], [], 0, 18⟩) (fun x => 3 - x.i) ⟨0, by omega, fun j x hj => absurd hj (Nat.not_lt_zero _)⟩ (WkG.of rfl rfl ⟨Le.refl _ _, Le.refl _ _, Le.refl _ _, Le.refl _ _, trivial⟩ trivial ⟨rfl, rfl, rfl, rfl, trivial⟩ trivial) ?_
  intro y
  have hyi := y.hi
  conv => arg 4; whnf
  refine ⟨fun h => ?_, fun h => ?_⟩
  · have hi : y.i < 3 := by simp at h; omega
    (conv => arg 4; whnf); repeat (refine ⟨rfl, ?_⟩; conv => arg 4; whnf)
    have hx : [a, b, c][y.i]? = some [a, b, c][y.i] := List.getElem?_eq_getElem (l := [a, b, c]) hi
    refine ⟨.int .i64 [a, b, c][y.i], ⟨by omega, by
      rw [Int.toNat_natCast]
      show ([a, b, c].map (AV.int .i64))[y.i]? = _
      rw [List.getElem?_map, hx]; rfl⟩, ?_⟩
    (conv => arg 4; whnf); repeat (refine ⟨rfl, ?_⟩; conv => arg 4; whnf)
    refine ⟨fun h0 => ?_, fun h0 => ?_⟩
    · have h0 : [a, b, c][y.i] ≠ 0 := by simpa using h0
      (conv => arg 4; whnf); repeat (refine ⟨rfl, ?_⟩; conv => arg 4; whnf)
      refine fin_ret ?_
      show holds _ _ _ _
      conv => arg 4; whnf
      refine ⟨by decide, Le.of_eq (congrArg (AV.int .i64) (y.got hi h0)), trivial, (Cl.int _ _) _, trivial⟩
    · have h0 : [a, b, c][y.i] = 0 := by simpa using h0
      (conv => arg 4; whnf); repeat (refine ⟨rfl, ?_⟩; conv => arg 4; whnf)
      exact ⟨⟨y.i + 1, hi, fun j x hj hx' => by
        rcases Nat.lt_or_ge j y.i with q | q
        · exact y.z j x q hx'
        · obtain rfl : j = y.i := by omega
          rw [hx] at hx'; cases hx'; exact h0⟩, by show 3 - (y.i + 1) < 3 - y.i; omega, WkG.of rfl rfl ⟨Le.of_eq (succ_int (by omega)), Le.refl _ _, Le.refl _ _, Le.refl _ _, trivial⟩ trivial ⟨rfl, rfl, rfl, rfl, trivial⟩ trivial⟩
  · have hi : y.i = 3 := by simp at h; omega
    conv => arg 4; whnf
    refine fin_exit ?_
    show holds _ _ _ _
    conv => arg 4; whnf
    refine ⟨by decide, Le.of_eq (congrArg (AV.int .i64) ?_), trivial, (Cl.int _ _) _, trivial⟩
    have h1 := y.z 0 a (by omega) rfl
    have h2 := y.z 1 b (by omega) rfl
    have h3 := y.z 2 c (by omega) rfl
    rw [h1, h2, h3]; rfl
theorem Cl.three (a b c : Int) : ClL [.sl .none 0 [.int .i64 a, .int .i64 b, .int .i64 c]] := fun ρ => by simp only [renL, ren, renP]
theorem cmpKey {a b : MK} : CallOK Try.prog 140 [kA a, kA b] [] 0 (Out (.int .i64 (cK a b)) [] 0) := by
  refine CallOK.fit (by decide) ?_
  refine callOK Try.call140 Try.func140 Try.ntmps140 rfl ?_
  (conv => arg 4; whnf); repeat (refine ⟨rfl, ?_⟩; conv => arg 4; whnf)
  refine call0 cmpS (by (repeat' (first | with_reducible assumption | exact ClL.nil | exact Cl.int _ _ | exact Cl.bool _ | exact Cl.bl _ | exact Cl.bs _ | exact Cl.str _ | exact Cl.nils | exact Cl.nilp | exact Cl.rec _ | exact Cl.bat _ | exact Cl.recsV _ | exact Cl.strsV _ | exact Cl.intsV _ | exact Cl.req _ | exact Cl.rsp _ | exact Cl.reqA _ | exact Cl.rspA _ | exact Cl.batsV _ | exact Cl.prsV _ | exact Cl.atsV _ | exact Cl.entA _ _ | exact Cl.ent _ | exact Cl.rr _ _ | exact Cl.foundA _ | exact Cl.getB _ | exact Cl.encA _ | exact Cl.firstA _ | refine ClL.cons ?_ ?_ | refine Cl.tup ?_ | refine Cl.agg ?_ | exact ClO.RO _ _))) (by (repeat' (first | with_reducible assumption | exact ClL.nil | exact Cl.int _ _ | exact Cl.bool _ | exact Cl.bl _ | exact Cl.bs _ | exact Cl.str _ | exact Cl.nils | exact Cl.nilp | exact Cl.rec _ | exact Cl.bat _ | exact Cl.recsV _ | exact Cl.strsV _ | exact Cl.intsV _ | exact Cl.req _ | exact Cl.rsp _ | exact Cl.reqA _ | exact Cl.rspA _ | exact Cl.batsV _ | exact Cl.prsV _ | exact Cl.atsV _ | exact Cl.entA _ _ | exact Cl.ent _ | exact Cl.rr _ _ | exact Cl.foundA _ | exact Cl.getB _ | exact Cl.encA _ | exact Cl.firstA _ | refine ClL.cons ?_ ?_ | refine Cl.tup ?_ | refine Cl.agg ?_ | exact ClO.RO _ _))) ?_
  (conv => arg 4; whnf); repeat (refine ⟨rfl, ?_⟩; conv => arg 4; whnf)
  refine call0 cmpS (by (repeat' (first | with_reducible assumption | exact ClL.nil | exact Cl.int _ _ | exact Cl.bool _ | exact Cl.bl _ | exact Cl.bs _ | exact Cl.str _ | exact Cl.nils | exact Cl.nilp | exact Cl.rec _ | exact Cl.bat _ | exact Cl.recsV _ | exact Cl.strsV _ | exact Cl.intsV _ | exact Cl.req _ | exact Cl.rsp _ | exact Cl.reqA _ | exact Cl.rspA _ | exact Cl.batsV _ | exact Cl.prsV _ | exact Cl.atsV _ | exact Cl.entA _ _ | exact Cl.ent _ | exact Cl.rr _ _ | exact Cl.foundA _ | exact Cl.getB _ | exact Cl.encA _ | exact Cl.firstA _ | refine ClL.cons ?_ ?_ | refine Cl.tup ?_ | refine Cl.agg ?_ | exact ClO.RO _ _))) (by (repeat' (first | with_reducible assumption | exact ClL.nil | exact Cl.int _ _ | exact Cl.bool _ | exact Cl.bl _ | exact Cl.bs _ | exact Cl.str _ | exact Cl.nils | exact Cl.nilp | exact Cl.rec _ | exact Cl.bat _ | exact Cl.recsV _ | exact Cl.strsV _ | exact Cl.intsV _ | exact Cl.req _ | exact Cl.rsp _ | exact Cl.reqA _ | exact Cl.rspA _ | exact Cl.batsV _ | exact Cl.prsV _ | exact Cl.atsV _ | exact Cl.entA _ _ | exact Cl.ent _ | exact Cl.rr _ _ | exact Cl.foundA _ | exact Cl.getB _ | exact Cl.encA _ | exact Cl.firstA _ | refine ClL.cons ?_ ?_ | refine Cl.tup ?_ | refine Cl.agg ?_ | exact ClO.RO _ _))) ?_
  (conv => arg 4; whnf); repeat (refine ⟨rfl, ?_⟩; conv => arg 4; whnf)
  refine call0 cmpI (by (repeat' (first | with_reducible assumption | exact ClL.nil | exact Cl.int _ _ | exact Cl.bool _ | exact Cl.bl _ | exact Cl.bs _ | exact Cl.str _ | exact Cl.nils | exact Cl.nilp | exact Cl.rec _ | exact Cl.bat _ | exact Cl.recsV _ | exact Cl.strsV _ | exact Cl.intsV _ | exact Cl.req _ | exact Cl.rsp _ | exact Cl.reqA _ | exact Cl.rspA _ | exact Cl.batsV _ | exact Cl.prsV _ | exact Cl.atsV _ | exact Cl.entA _ _ | exact Cl.ent _ | exact Cl.rr _ _ | exact Cl.foundA _ | exact Cl.getB _ | exact Cl.encA _ | exact Cl.firstA _ | refine ClL.cons ?_ ?_ | refine Cl.tup ?_ | refine Cl.agg ?_ | exact ClO.RO _ _))) (by (repeat' (first | with_reducible assumption | exact ClL.nil | exact Cl.int _ _ | exact Cl.bool _ | exact Cl.bl _ | exact Cl.bs _ | exact Cl.str _ | exact Cl.nils | exact Cl.nilp | exact Cl.rec _ | exact Cl.bat _ | exact Cl.recsV _ | exact Cl.strsV _ | exact Cl.intsV _ | exact Cl.req _ | exact Cl.rsp _ | exact Cl.reqA _ | exact Cl.rspA _ | exact Cl.batsV _ | exact Cl.prsV _ | exact Cl.atsV _ | exact Cl.entA _ _ | exact Cl.ent _ | exact Cl.rr _ _ | exact Cl.foundA _ | exact Cl.getB _ | exact Cl.encA _ | exact Cl.firstA _ | refine ClL.cons ?_ ?_ | refine Cl.tup ?_ | refine Cl.agg ?_ | exact ClO.RO _ _))) ?_
  (conv => arg 4; whnf); repeat (refine ⟨rfl, ?_⟩; conv => arg 4; whnf)
  refine holds_args (args' := [.sl .none 0 [.int .i64 _, .int .i64 _, .int .i64 _]]) ⟨Le.none, trivial⟩ ?_
  refine call0 cmpOr (Cl.three _ _ _) (by (repeat' (first | with_reducible assumption | exact ClL.nil | exact Cl.int _ _ | exact Cl.bool _ | exact Cl.bl _ | exact Cl.bs _ | exact Cl.str _ | exact Cl.nils | exact Cl.nilp | exact Cl.rec _ | exact Cl.bat _ | exact Cl.recsV _ | exact Cl.strsV _ | exact Cl.intsV _ | exact Cl.req _ | exact Cl.rsp _ | exact Cl.reqA _ | exact Cl.rspA _ | exact Cl.batsV _ | exact Cl.prsV _ | exact Cl.atsV _ | exact Cl.entA _ _ | exact Cl.ent _ | exact Cl.rr _ _ | exact Cl.foundA _ | exact Cl.getB _ | exact Cl.encA _ | exact Cl.firstA _ | refine ClL.cons ?_ ?_ | refine Cl.tup ?_ | refine Cl.agg ?_ | exact ClO.RO _ _))) ?_
  (conv => arg 4; whnf); repeat (refine ⟨rfl, ?_⟩; conv => arg 4; whnf)
  exact ⟨by decide, Le.refl _ _, trivial, (Cl.int _ _) _, trivial⟩
theorem cS_lt {a b : List UInt8} : cS a b < 0 ↔ Op.bytesLess a b = true := by
  unfold cS
  split
  · simp [*]
  · split <;> simp [*, bl_irr]
theorem cS_zero {a b : List UInt8} : cS a b = 0 ↔ a = b := by
  unfold cS
  split
  · rename_i h
    constructor
    · intro h'; simp at h'
    · rintro rfl; rw [bl_irr] at h; cases h
  · split <;> simp [*]
theorem cI_lt {a b : Int} : cI a b < 0 ↔ a < b := by
  unfold cI
  split
  · simp [*]
  · split <;> simp [*]
theorem cK_lt (a b : MK) : decide (cK a b < 0) = ltK a b := by
  rw [Bool.eq_iff_iff, decide_eq_true_eq]
  unfold cK or3 ltK
  by_cases h1 : a.1 = b.1
  · have e1 : cS a.1 b.1 = 0 := cS_zero.2 h1
    rw [if_neg (show ¬ (cS a.1 b.1 ≠ 0) from fun h => h e1), if_neg (show ¬ (a.1 ≠ b.1) from fun h => h h1)]
    by_cases h2 : a.2.1 = b.2.1
    · have e2 : cS a.2.1 b.2.1 = 0 := cS_zero.2 h2
      rw [if_neg (show ¬ (cS a.2.1 b.2.1 ≠ 0) from fun h => h e2), if_neg (show ¬ (a.2.1 ≠ b.2.1) from fun h => h h2), cI_lt, decide_eq_true_eq]
    · rw [if_pos (show cS a.2.1 b.2.1 ≠ 0 from fun e => h2 (cS_zero.1 e)), if_pos h2, cS_lt]
  · rw [if_pos (show cS a.1 b.1 ≠ 0 from fun e => h1 (cS_zero.1 e)), if_pos h1, cS_lt]
theorem lt_cK : ltOf cK = ltK := by
  funext a b
  exact cK_lt a b
theorem swoK : Go.Sort.SWO (ltOf cK) := by
  rw [lt_cK]
  refine ⟨ltK_irr, fun x y z => ltK_trans, fun x y z h1 h2 => ?_⟩
  rw [Bool.eq_false_iff]
  intro h
  by_cases e : x = y
  · subst e; rw [h2] at h; cases h
  · rcases ltK_tot e with k | k
    · rw [h1] at k; cases k
    · have := ltK_trans k h; rw [h2] at this; cases this
end Go.Proofs.Ytlifbhcmihnkpaa.Cm

namespace Go.Proofs.Ytlifbhcmihnkpaa.Cm
set_option maxRecDepth 100000
set_option maxHeartbeats 80000000
open Go.Sym

def sortRen : Go.Shelf.Ren := ⟨fun n => match n with
  | 6 => 149 | 14 => 155 | 15 => 156 | 20 => 157 | 21 => 158 | 22 => 159 | 23 => 160 | 24 => 161 | 25 => 162 | 26 => 163 | 27 => 164 | 28 => 165 | 29 => 166 | 46 => 167 | 47 => 168 | 48 => 169 | 49 => 170 | 50 => 171 | 57 => 172 | n => n,
 fun n => match n with
  | 0 => 0 | 3 => 3 | 4 => 4 | 5 => 5 | 9 => 9 | 22 => 186 | 25 => 193 | 39 => 132 | 45 => 208 | 46 => 209 | 50 => 76 | 53 => 180 | 55 => 131 | 66 => 215 | 70 => 219 | 76 => 221 | 77 => 37 | 24 => 147 | n => n, fun n => n⟩
theorem sortLays : SlLaysF0.n6 Try.prog sortRen where
  mixed := rfl
  f6 := ⟨"slices.SortFunc[[]cordwain/commits.key,cordwain/commits.key]", by decide, Try.func149⟩
  f14 := ⟨"slices.pdqsortCmpFunc[cordwain/commits.key]", by decide, Try.func155⟩
  f15 := Try.func156
  f20 := ⟨"slices.insertionSortCmpFunc[cordwain/commits.key]", by decide, Try.func157⟩
  f21 := ⟨"slices.heapSortCmpFunc[cordwain/commits.key]", by decide, Try.func158⟩
  f22 := ⟨"slices.breakPatternsCmpFunc[cordwain/commits.key]", by decide, Try.func159⟩
  f23 := ⟨"slices.choosePivotCmpFunc[cordwain/commits.key]", by decide, Try.func160⟩
  f24 := ⟨"slices.reverseRangeCmpFunc[cordwain/commits.key]", by decide, Try.func161⟩
  f25 := ⟨"slices.partialInsertionSortCmpFunc[cordwain/commits.key]", by decide, Try.func162⟩
  f26 := ⟨"slices.partitionEqualCmpFunc[cordwain/commits.key]", by decide, Try.func163⟩
  f27 := ⟨"slices.partitionCmpFunc[cordwain/commits.key]", by decide, Try.func164⟩
  f28 := Try.func165
  f29 := Try.func166
  f46 := ⟨"slices.siftDownCmpFunc[cordwain/commits.key]", by decide, Try.func167⟩
  f47 := Try.func168
  f48 := Try.func169
  f49 := ⟨"slices.medianAdjacentCmpFunc[cordwain/commits.key]", by decide, Try.func170⟩
  f50 := ⟨"slices.medianCmpFunc[cordwain/commits.key]", by decide, Try.func171⟩
  f57 := ⟨"slices.order2CmpFunc[cordwain/commits.key]", by decide, Try.func172⟩
  t0 := Try.underlying0
  a0 := Try.isAgg0
  z0 := Try.sizeOf0
  v0 := Try.zeroValue0
  t3 := Try.underlying3
  a3 := Try.isAgg3
  z3 := Try.sizeOf3
  v3 := Try.zeroValue3
  t4 := Try.underlying4
  a4 := Try.isAgg4
  z4 := Try.sizeOf4
  v4 := Try.zeroValue4
  t5 := Try.underlying5
  a5 := Try.isAgg5
  z5 := Try.sizeOf5
  v5 := Try.zeroValue5
  t9 := Try.underlying9
  a9 := Try.isAgg9
  z9 := Try.sizeOf9
  v9 := Try.zeroValue9
  t22 := Try.underlying186
  a22 := Try.isAgg186
  z22 := Try.sizeOf186
  v22 := Try.zeroValue186
  t25 := Try.underlying193
  a25 := Try.isAgg193
  z25 := Try.sizeOf193
  v25 := Try.zeroValue193
  t39 := Try.underlying132
  a39 := Try.isAgg132
  z39 := Try.sizeOf132
  v39 := Try.zeroValue132
  t45 := Try.underlying208
  a45 := Try.isAgg208
  z45 := Try.sizeOf208
  v45 := Try.zeroValue208
  t46 := Try.underlying209
  a46 := Try.isAgg209
  z46 := Try.sizeOf209
  v46 := Try.zeroValue209
  t50 := Try.underlying76
  a50 := Try.isAgg76
  z50 := Try.sizeOf76
  v50 := Try.zeroValue76
  t53 := Try.underlying180
  a53 := Try.isAgg180
  z53 := Try.sizeOf180
  v53 := Try.zeroValue180
  t55 := Try.underlying131
  a55 := Try.isAgg131
  z55 := Try.sizeOf131
  v55 := Try.zeroValue131
  t66 := Try.underlying215
  a66 := Try.isAgg215
  z66 := Try.sizeOf215
  v66 := Try.zeroValue215
  t70 := Try.underlying219
  a70 := Try.isAgg219
  z70 := Try.sizeOf219
  v70 := Try.zeroValue219
  t76 := Try.underlying221
  a76 := Try.isAgg221
  z76 := Try.sizeOf221
  v76 := Try.zeroValue221
  t77 := Try.underlying37
  a77 := Try.isAgg37
  z77 := Try.sizeOf37
  v77 := Try.zeroValue37

def encK (k : MK) : List Value := [.string ⟨k.1.toArray⟩, .string ⟨k.2.1.toArray⟩, .int .i64 k.2.2]
theorem encK_one (k : MK) : ∀ v ∈ encK k, v.oneCell' = true := by
  intro v hv
  simp only [encK, List.mem_cons, List.not_mem_nil, or_false] at hv
  rcases hv with rfl | rfl | rfl <;> rfl
theorem rep_kA {F : Fix} {V : View} {k : MK} : rep F V (kA k) (.agg (encK k).toArray) := by
  simp only [kA, rep]
  exact ⟨encK k, rfl, ⟨_, _, rfl, rfl, _, _, rfl, rfl, _, _, rfl, rfl, rfl⟩, encK_one k⟩
theorem rep_cells {F : Fix} {V : View} : ∀ (l : List MK) (us : List Value), repL F V (flatA 3 (l.map kA)) us ↔ us = l.flatMap encK
  | [], us => by
    show repL F V [] us ↔ us = []
    simp only [repL]
  | k :: l, us => by
    have e : flatA 3 ((k :: l).map kA) = .str k.1 :: .str k.2.1 :: .int .i64 k.2.2 :: flatA 3 (l.map kA) := rfl
    rw [e, List.flatMap_cons]
    constructor
    · rintro ⟨x1, r1, rfl, h1, x2, r2, rfl, h2, x3, r3, rfl, h3, h4⟩
      simp only [rep] at h1 h2 h3
      rw [h1, h2, h3, (rep_cells l r3).1 h4]
      rfl
    · rintro rfl
      exact ⟨_, _, rfl, rfl, _, _, rfl, rfl, _, _, rfl, rfl, (rep_cells l _).2 rfl⟩
theorem flatA_len : ∀ l : List MK, (flatA 3 (l.map kA)).length = l.length * 3
  | [] => rfl
  | k :: l => by
    have e : flatA 3 ((k :: l).map kA) = .str k.1 :: .str k.2.1 :: .int .i64 k.2.2 :: flatA 3 (l.map kA) := rfl
    rw [e, List.length_cons, List.length_cons, List.length_cons, flatA_len l, List.length_cons]
    omega
theorem flatMap_len : ∀ l : List MK, (l.flatMap encK).length = l.length * 3
  | [] => rfl
  | k :: l => by
    rw [List.flatMap_cons, List.length_append, flatMap_len l, List.length_cons]
    simp only [encK, List.length_cons, List.length_nil]
    omega
theorem flatK_list : ∀ l : List MK, (Go.Sort.flatK encK 3 l.toArray).toList = l.flatMap encK
  | [] => by simp [Go.Sort.flatK]
  | k :: l => by
    have ih := flatK_list l
    simp only [Go.Sort.flatK, Array.toList_map, Array.toList_range, List.size_toArray] at ih ⊢
    rw [List.length_cons, Nat.add_mul, Nat.one_mul, Nat.add_comm, List.range_add, List.map_append, List.map_map, List.flatMap_cons, ← ih]
    congr 1
    refine List.map_congr_left fun t _ => ?_
    simp only [Function.comp]
    rw [show (3 + t) / 3 = t / 3 + 1 by omega, show (3 + t) % 3 = t % 3 by omega]
    congr 2
    simp
theorem putCells_list {F c : Array Value} (h : F.size ≤ c.size) : (Go.Sort.putCells id 0 F c).toList = F.toList ++ c.toList.drop F.size := by
  refine List.ext_getElem? fun t => ?_
  simp only [Go.Sort.putCells, Array.toList_mapIdx, List.getElem?_mapIdx, Nat.zero_le, true_and, Nat.zero_add, Nat.sub_zero, id]
  by_cases ht : t < F.size
  · rw [List.getElem?_append_left (by simpa using ht)]
    have hc : t < c.toList.length := by simp; omega
    rw [List.getElem?_eq_getElem hc]
    simp [ht]
  · rw [List.getElem?_append_right (by simpa using ht), List.getElem?_drop]
    simp only [Array.length_toList, ht, if_false, Option.map_id']
    congr 1
    omega

theorem grown {w w' : World} (hs : w.heap.size ≤ w'.heap.size) (ht : ∀ b, b < w.heap.size → w'.heap[b]? = w.heap[b]?) (ho : w'.os = w.os) (hta : w'.tape = w.tape) (hou : w'.output = w.output) (hd : w.drawn ≤ w'.drawn) : ∃ q os, w' = Go.Sort.grow (w.drewN q) os := by
  obtain ⟨h, t, d, o, u⟩ := w
  obtain ⟨h', t', d', o', u'⟩ := w'
  simp only at hs ht ho hta hou hd
  subst ho hta hou
  refine ⟨d' - d, h'.extract h.size h'.size, ?_⟩
  simp only [Go.Sort.grow, World.drewN, World.mk.injEq, true_and, and_true]
  refine ⟨?_, by omega⟩
  refine Array.ext_getElem? fun i => ?_
  by_cases hi : i < h.size
  · rw [Array.getElem?_append_left hi]
    exact ht i hi
  · rw [Array.getElem?_append_right (by omega), Array.getElem?_extract]
    by_cases hj : i < h'.size
    · rw [if_pos (by omega)]
      congr 1
      omega
    · rw [if_neg (by omega), Array.getElem?_eq_none (by omega)]

/-- A function without objects: it lays blocks, and draws. -/
theorem calls_grow {P : Program} {f : FuncId} {args : List AV} {a : AV} (c : CallOK P f args [] 0 (Out a [] 0)) {w : World} {vs : List Value} {r : Value} (hr : ∀ F V, repL F V args vs) (ha : ∀ F V v, rep F V a v → v = r) :
    Calls P f vs.toArray w fun e w' => e = .returned r ∧ ∃ q os, w' = Go.Sort.grow (w.drewN q) os := by
  refine (c.2 (fun _ _ => none) ⟨fun _ => none, fun _ => none⟩ w vs ⟨fun _ _ _ h => (nomatch h), fun _ _ h => (nomatch h), fun _ _ _ _ h => (nomatch h), fun _ _ _ _ _ h => (nomatch h)⟩ (fun _ _ => ⟨rfl, rfl⟩) (hr _ _)).mono ?_
  rintro e w' ⟨v, F', V', a', h', nx', rfl, s, -, -, hv, rfl, -, -⟩
  refine ⟨by rw [ha _ _ _ hv], grown s.size (fun b hb => s.touch b hb ?_) s.os s.tape s.output s.drawn⟩
  rintro ⟨id, o, hg, -⟩
  cases hg

theorem Inv.grow {F : Fix} {V : View} {h : Heap} (os : List Obj) : ∀ {w : World}, Inv F V h w → Inv F V h (Go.Sort.grow w os.toArray) ∧ Step F V h w F V h (Go.Sort.grow w os.toArray) := by
  induction os with
  | nil => intro w i; rw [show Go.Sort.grow w (List.toArray []) = w from by simp [Go.Sort.grow]]; exact ⟨i, .refl ..⟩
  | cons o os ih =>
    intro w i
    have e : Go.Sort.grow w (o :: os).toArray = Go.Sort.grow (w.alloc o) os.toArray := by
      simp only [Go.Sort.grow, World.alloc, World.mk.injEq, and_true]
      apply Array.ext'
      simp
    obtain ⟨i2, s2⟩ := ih (i.allocAny o)
    rw [e]
    exact ⟨i2, (Step.alloc0 o).trans s2⟩

theorem sortF {l l' : List MK} {pad : List AV} {c : Nat} (hp : l'.Perm l) (hs : l'.Pairwise fun a b => ltK a b = true) (hl : l.length ≤ 1000000) :
    CallOK Try.prog 149 [.vec 0 3 l.length c, .fn 140 []] [(0, .cells (flatA 3 (l.map kA) ++ pad))] 1 (Out (.tup []) [(0, .cells (flatA 3 (l'.map kA) ++ pad))] 1) := by
  refine ⟨Try.call149, fun F V w vs i hf hr => ?_⟩
  obtain ⟨b, cs, e, hv, hh, hrl, ho⟩ := i.objs 0 _ rfl
  have hvs : vs.toArray = #[.slice (some ⟨b, 0, none⟩) l.toArray.size c, .func (.func 140) #[] #[]] := by
    simp only [repL, rep] at hr
    obtain ⟨x, r, rfl, ⟨b', -, hb', rfl⟩, x2, r2, rfl, ⟨us, rfl, rfl⟩, rfl⟩ := hr
    rw [hv] at hb'
    cases hb'
    rfl
  have hlen : l'.length = l.length := hp.length_eq
  have hlen2 := hrl.length
  rw [List.length_take, List.length_append, flatA_len] at hlen2
  have hcs : l.length * 3 + pad.length ≤ cs.size := by
    have : cs.toList.length = cs.size := rfl
    omega
  have hcut : cs.toList.take (l.length * 3) = l.flatMap encK := by
    have := hrl.take (l.length * 3)
    rw [List.take_left' (flatA_len l), List.take_take, List.length_append, flatA_len, Nat.min_eq_left (by omega)] at this
    exact (rep_cells l _).1 this
  have hFl := flatK_list l
  have hblk : b < w.heap.size := by
    rcases Nat.lt_or_ge b w.heap.size with h' | h'
    · exact h'
    · rw [Array.getElem?_eq_none h'] at hh; cases hh
  have hH : Go.Sort.HoldsK encK 3 w b 0 l.toArray := by
    intro j hj
    have hj2 : j < (Go.Sort.flatK encK 3 l.toArray).size := hj
    have hj3 : j < l.length * 3 := by rw [Go.Sort.size_flatK] at hj2; simpa using hj2
    have hg : (Go.Sort.flatK encK 3 l.toArray)[j]! = cs[j]! := by
      rw [getElem!_pos _ j hj2, getElem!_pos cs j (by omega), ← Array.getElem_toList, ← Array.getElem_toList]
      have h1 : (l.flatMap encK)[j]? = some (Go.Sort.flatK encK 3 l.toArray).toList[j] := by rw [← hFl]; exact List.getElem?_eq_getElem _
      rw [← hcut, List.getElem?_take, if_pos hj3, List.getElem?_eq_getElem (by simp; omega)] at h1
      exact (Option.some.inj h1).symm
    constructor
    · simp only [World.cell?, hh, Nat.zero_add, id]
      rw [hg, getElem!_pos cs j (by omega)]
      simp
    · simp only [World.frozen?, hh]
      simp
  have hkey : l'.toArray = (l.toArray.toList.mergeSort fun x y => !(ltOf cK) y x).toArray := by
    refine congrArg List.toArray (a₁ := l'.toArray.toList) ?_
    refine Go.Sort.sorted_unique_holds swoK ?_ l.toArray l'.toArray ⟨by simpa using hlen, fun i hi => ?_, ?_⟩ ?_
    · intro x y h1 h2
      rw [lt_cK] at h1 h2
      exact Classical.byContradiction fun hne => by
        rcases ltK_tot hne with k | k
        · rw [h1] at k; cases k
        · rw [h2] at k; cases k
    · have hi : l.length ≤ i := by simpa using hi
      rw [getElem!_neg _ _ (by simp; omega), getElem!_neg _ _ (by simp; omega)]
    · have ht : l'.take l.length = l' := List.take_of_length_le (by omega)
      simpa [ht] using hp
    · intro i j _ hij hj
      have hj : j < l'.length := by rw [hlen]; simpa using hj
      rw [lt_cK]
      have := List.pairwise_iff_getElem.1 hs i j (by omega) hj hij
      rw [getElem!_pos _ j (by simpa using hj), getElem!_pos _ i (by simp; omega)]
      simpa using ltK_asym this
  have hcmp : CmpLays Try.prog 140 #[] encK 3 cK b 0 l.toArray.size w := by
    intro m os dk _ x y
    exact calls_grow (vs := [.agg (encK x).toArray, .agg (encK y).toArray]) (cmpKey (a := x) (b := y)) (fun F V => ⟨_, _, rfl, rep_kA, _, _, rfl, rep_kA, rfl⟩) (fun F V v hv => by simpa only [rep] using hv)
  rw [hvs]
  refine (AnyQ.slices_SortFunc_total sortLays 3 Try.isAgg147 Try.sizeOf147 encK (fun _ => rfl) encK_one cK swoK 140 #[] b 0 c l.toArray w Try.call140 hcmp hH hblk (by simp; omega) ?_).mono ?_
  · intro x y h1 h2
    rw [lt_cK] at h1 h2
    exact Classical.byContradiction fun hne => by
      rcases ltK_tot hne with k | k
      · rw [h1] at k; cases k
      · rw [h2] at k; cases k
  · rintro e' w' ⟨rfl, n, os, rfl⟩
    rw [← hkey]
    have hF' := flatK_list l'
    have hFs : (Go.Sort.flatK encK 3 l'.toArray).size = l.length * 3 := by rw [Go.Sort.size_flatK]; simp [hlen]
    have hput := putCells_list (F := Go.Sort.flatK encK 3 l'.toArray) (c := cs) (by omega)
    rw [hF', hFs] at hput
    have hpad : repL F V pad ((cs.toList.drop (l.length * 3)).take pad.length) := by
      have := hrl.drop (l.length * 3)
      rw [List.drop_left' (flatA_len l), List.drop_take, List.length_append, flatA_len, Nat.add_sub_cancel_left] at this
      exact this
    obtain ⟨i2, s2⟩ := i.setO (O' := .cells (flatA 3 (l'.map kA) ++ pad)) (ob := .cells (Go.Sort.putCells id 0 (Go.Sort.flatK encK 3 l'.toArray) cs) e (0, 0)) (id := 0) rfl (fun _ e => by cases e) (fun _ e => by cases e) hv hh fun w' hw' => ⟨b, _, e, hv, hw', by
      rw [hput, List.length_append, flatA_len, hlen, List.take_append, List.take_of_length_le (by rw [flatMap_len, hlen]; omega), flatMap_len, hlen, Nat.add_sub_cancel_left]
      exact ((rep_cells l' _).2 rfl).append hpad, by
      rw [hput, List.length_append, flatA_len, hlen, List.take_append, List.take_of_length_le (by rw [flatMap_len, hlen]; omega), flatMap_len, hlen, Nat.add_sub_cancel_left]
      intro x hx
      rcases List.mem_append.1 hx with hx | hx
      · obtain ⟨k, -, hk⟩ := List.mem_flatMap.1 hx
        exact encK_one k x hk
      · refine ho x ?_
        rw [List.length_append, flatA_len]
        have : (cs.toList.take (l.length * 3 + pad.length)).drop (l.length * 3) = (cs.toList.drop (l.length * 3)).take pad.length := by rw [List.drop_take, Nat.add_sub_cancel_left]
        rw [← this] at hx
        exact List.mem_of_mem_drop hx⟩
    have i3 := i2.drawn (w.drawn + n)
    have s3 := s2.trans (Step.dr _ (n := w.drawn + n) (Nat.le_add_right _ _))
    obtain ⟨i4, s4⟩ := Inv.grow os.toList i3
    have ew : sortWorldK encK 3 w b 0 n l'.toArray os = Go.Sort.grow { ({ w with heap := w.heap.setIfInBounds b (.cells (Go.Sort.putCells id 0 (Go.Sort.flatK encK 3 l'.toArray) cs) e (0, 0)) } : World) with drawn := w.drawn + n } os.toList.toArray := by
      unfold sortWorldK Go.Sort.putRowK Go.Sort.putRow Go.Sort.mapBlock
      congr 1
      simp only [Go.Sort.ahead, World.mk.injEq, and_true, true_and]
      apply Array.ext_getElem?
      intro j
      rw [Array.getElem?_modify, Array.getElem?_setIfInBounds]
      by_cases hj : b = j
      · subst hj
        obtain ⟨_, he⟩ := Array.getElem?_eq_some_iff.1 hh
        simp [Go.Sort.onCells, hblk, he]
      · simp [hj]
    rw [ew]
    exact ⟨_, F, V, .tup [], _, 1, rfl, s3.trans s4, i4, hf, by simp only [rep]; exact ⟨[], rfl, rfl⟩, rfl, rfl, rfl⟩

theorem sortNone : CallOK Try.prog 149 [.sl .none 3 [], .fn 140 []] [] 0 (Out (.tup []) [] 0) := by
  refine ⟨Try.call149, fun F V w vs i hf hr => ?_⟩
  have hvs : ∃ p cap fv, vs.toArray = #[.slice p 0 cap, fv] := by
    simp only [repL, rep] at hr
    obtain ⟨x, r, rfl, hx, x2, r2, rfl, -, rfl⟩ := hr
    rcases hx with ⟨b, o, cap, us, rfl, rfl, -⟩ | ⟨-, ⟨a, rfl⟩, -⟩
    · exact ⟨_, _, _, rfl⟩
    · exact ⟨_, _, _, rfl⟩
  obtain ⟨p, cap, fv, hvs⟩ := hvs
  rw [hvs]
  refine (AnyF.slices_SortFunc_none sortLays p cap fv w).mono ?_
  rintro e w' ⟨rfl, rfl⟩
  exact ⟨_, F, V, .tup [], _, 0, rfl, .refl .., i, hf, by simp only [rep]; exact ⟨[], rfl, rfl⟩, rfl, rfl, rfl⟩
end Go.Proofs.Ytlifbhcmihnkpaa.Cm

namespace Go.Sym
/-- A heap under other names. -/
def renH (ρ : Nat → Nat) : Heap → Heap
  | [] => []
  | (id, o) :: r => (ρ id, renO ρ o) :: renH ρ r
theorem get_renH {ρ : Nat → Nat} (hi : ∀ i j, ρ i = ρ j → i = j) (id : Nat) (o : AObj) : ∀ h : Heap, get h id = some o → get (renH ρ h) (ρ id) = some (renO ρ o)
  | [], hg => by simp [get] at hg
  | (j, x) :: r, hg => by
    rw [get_cons'] at hg
    show get ((ρ j, renO ρ x) :: renH ρ r) (ρ id) = _
    rw [get_cons']
    by_cases e : j = id
    · subst e
      simp only [if_true, Option.some.injEq] at hg ⊢
      rw [hg]
    · rw [if_neg e] at hg
      rw [if_neg fun e' => e (hi _ _ e')]
      exact get_renH hi id o r hg
theorem cut_inj {a d i j : Nat} (h : cut a d i = cut a d j) : i = j := by
  rcases Nat.lt_or_ge i a with hi | hi <;> rcases Nat.lt_or_ge j a with hj | hj
  · rwa [cut_lt hi, cut_lt hj] at h
  · rw [cut_lt hi, cut_ge hj] at h; omega
  · rw [cut_ge hi, cut_lt hj] at h; omega
  · rw [cut_ge hi, cut_ge hj] at h; omega
/-- Names at a and above are told anew: d above them. -/
theorem Gh.reN {n n' a d : Nat} {f f' : Nat → AV} {h h' : Heap} {nx : Nat} (ha : n ≤ a) (hn' : a ≤ n') (hx : nx ≤ d + n') (hf : ∀ t, ren (cut a d) (f' t) = f t) (hh : ∀ id o, get h' id = some o → get h (cut a d id) = some (renO (cut a d) o)) : Gh n f h nx f' h' n' := by
  intro hn
  refine ⟨by omega, fun F V w ρ i hfr r => ?_⟩
  refine ⟨F, V.comap (cut a d), .refl F, ⟨fun id b hlt hb => ?_, fun t x hlt hx => ?_⟩, ?_, fun _ _ _ h => .inl h, ⟨i.fixed, ?_, ?_, ?_⟩, ?_, fun t => (rep_ren _ _).1 (by rw [hf]; exact r t)⟩
  · show V.obj (cut a d id) = some b
    rw [cut_lt (by omega)]; exact hb
  · refine ⟨x, ?_, Nat.le_refl _, fun _ => rfl⟩
    show V.tok (cut a d t) = some x
    rw [cut_lt (by omega)]; exact hx
  · rintro b ⟨id, o, hg, ho⟩
    exact ⟨_, _, hh id o hg, by rw [own_ren]; exact ho⟩
  · intro id o hg
    exact objRep_ren.1 (i.objs _ _ (hh id o hg))
  · intro id o b off hg ho hfree
    exact i.nofix _ _ b off (hh id o hg) (by rw [own_ren]; exact ho) (free_ren.2 hfree)
  · intro id id' o o' b hg hg' ho ho'
    exact cut_inj (i.inj _ _ _ _ b (hh id o hg) (hh id' o' hg') (by rw [own_ren]; exact ho) (by rw [own_ren]; exact ho'))
  · intro id hid
    have := hfr (d + id) (by omega)
    rw [← cut_ge (n := a) (nx := d) (by omega : a ≤ id)] at this
    exact this
/-- A loop's next state, names told anew. -/
theorem WkG.re {n n' : Nat} (a d : Nat) {env env' : List (Nat × AV)} {h h' : Heap} {nx : Nat} {sz : Sz} (hn : Nat.ble n nx = true) (ha : Nat.ble n a = true) (hn' : Nat.ble a n' = true) (hx : Nat.ble nx (d + n') = true) (he : EnvLe h env (renV (cut a d) env')) (hh : HeapLe h (renH (cut a d) h')) :
    WkG n ⟨env, h, nx, sz⟩ ⟨env', h', n', sz⟩ :=
  ⟨Nat.le_of_ble_eq_true hn, rfl, (Gh.le (f' := look (renV (cut a d) env')) (h' := renH (cut a d) h') he.le hh.le).trans (Gh.reN (a := a) (d := d) (Nat.le_of_ble_eq_true ha) (Nat.le_of_ble_eq_true hn') (Nat.le_of_ble_eq_true hx) (fun t => (look_renV _ _ _).symm) (fun id o hg => get_renH (fun _ _ => cut_inj) id o _ hg))⟩
end Go.Sym
namespace Go.Proofs.Ytlifbhcmihnkpaa.Cm
set_option maxRecDepth 100000
set_option maxHeartbeats 80000000
open Go.Sym

/-- The keys' closure, and its map. -/
abbrev KH (m : List (MK × Int)) : Heap := [(1, .cells [.map 0]), (0, .map (mE m))]
theorem mapKeys {m : List (MK × Int)} : CallOK Try.prog 139 [.map 0] [(0, .map (mE m))] 1 (Out (.fn 150 [.ptr 1 0]) (KH m) 2) := by
  refine callOK Try.call139 Try.func139 Try.ntmps139 rfl ?_
  (conv => arg 4; whnf); repeat (refine ⟨rfl, ?_⟩; conv => arg 4; whnf)
  exact ⟨rfl, rfl, rfl⟩

/-- Which keys have come, by their places. -/
def ksOf (m : List (MK × Int)) (is : List Nat) : List MK := is.filterMap fun i => (m[i]?).map (·.1)
def seenOf (bs is : List Nat) : List Nat := is.map fun i => bs.getD i 0
structure KI (m : List (MK × Int)) where
  is : List Nat
  nd : is.Nodup
  lt : ∀ i ∈ is, i < m.length
  d : Nat
  l : List MK
  hl : l = ksOf m is.reverse
def svK (d : Nat) : List MK → AV
  | [] => .sl .zero 3 []
  | k :: l => .vec 5 3 (k :: l).length ((k :: l).length + d)
def rowK (d : Nat) : List MK → Heap
  | [] => []
  | k :: l => [(5, .cells (flatA 3 ((k :: l).map kA) ++ List.replicate (d * width 3) .top))]

theorem nodup_len' {l : List Nat} {n : Nat} (h : l.Nodup) (hl : ∀ i ∈ l, i < n) : l.length ≤ n := by
  have := nodup_len h (m := List.range n) fun i hi => List.mem_range.2 (hl i hi)
  simpa using this
theorem ks_len (m : List (MK × Int)) (is : List Nat) : (ksOf m is.reverse).length ≤ is.length := by
  unfold ksOf
  have := List.length_filterMap_le (fun i => (m[i]?).map (·.1)) is.reverse
  simpa using this
theorem flatA_append (a b : List AV) : flatA 3 (a ++ b) = flatA 3 a ++ flatA 3 b := by
  show ((a ++ b).map partsA).flatten = (a.map partsA).flatten ++ (b.map partsA).flatten
  rw [List.map_append, List.flatten_append]
theorem rowK_cl (ρ : Nat → Nat) (n : Nat) : ∀ l : List MK, renL ρ (flatA 3 (l.map kA) ++ List.replicate n .top) = flatA 3 (l.map kA) ++ List.replicate n .top
  | [] => by
    show renL ρ (List.replicate n .top) = List.replicate n .top
    clear rowK_cl
    induction n with
    | zero => rfl
    | succ n ih =>
      rw [List.replicate_succ]
      show AV.top :: renL ρ (List.replicate n .top) = _
      rw [ih]
  | k :: l => by
    have e : flatA 3 ((k :: l).map kA) = .str k.1 :: .str k.2.1 :: .int .i64 k.2.2 :: flatA 3 (l.map kA) := rfl
    rw [e]
    show AV.str k.1 :: AV.str k.2.1 :: AV.int .i64 k.2.2 :: renL ρ (flatA 3 (l.map kA) ++ List.replicate n .top) = _
    rw [rowK_cl ρ n l]
    rfl
theorem row_eq (k : MK) (l : List MK) (x : MK) (d d' : Nat) : (flatA 3 ((k :: l).map kA) ++ List.replicate (d * width 3) AV.top).take ((k :: l).length * width (2 + 1)) ++ flatA (2 + 1) [kA x] ++ List.replicate (d' * width (2 + 1)) AV.top = flatA 3 ((k :: (l ++ [x])).map kA) ++ List.replicate (d' * width 3) .top := by
  have hw : width (2 + 1) = 3 := rfl
  rw [hw, List.take_left' (flatA_len (k :: l))]
  have e : (k :: (l ++ [x])).map kA = (k :: l).map kA ++ [kA x] := by simp
  rw [e, flatA_append]
theorem range_map {α β : Type} (g : α → β) : ∀ m : List α, (List.range m.length).filterMap (fun i => (m[i]?).map g) = m.map g
  | [] => rfl
  | x :: m => by
    rw [List.length_cons, List.range_succ_eq_map, List.filterMap_cons, List.filterMap_map]
    simp only [List.getElem?_cons_zero, Option.map_some, List.map_cons]
    congr 1
    rw [← range_map g m]
    congr 1
theorem ks_all {m : List (MK × Int)} {bs is : List Nat} (h1 : bs.length = m.length) (h3 : bs.Pairwise (· < ·)) (nd : is.Nodup) (lt : ∀ i ∈ is, i < m.length) (hall : ∀ b ∈ bs, b ∈ seenOf bs is) : (ksOf m is.reverse).Perm (m.map (·.1)) := by
  have hp : is.Perm (List.range m.length) := (List.perm_ext_iff_of_nodup nd List.nodup_range).2 fun i => by
    rw [List.mem_range]
    refine ⟨lt i, fun hi => ?_⟩
    have hi' : i < bs.length := by omega
    have hb := hall bs[i] (List.getElem_mem _)
    obtain ⟨j, hj, e⟩ := List.mem_map.1 hb
    have hj' : j < bs.length := by have := lt j hj; omega
    have e2 : bs[j]? = some bs[i] := by
      rw [List.getD_eq_getElem?_getD, List.getElem?_eq_getElem hj'] at e
      rw [List.getElem?_eq_getElem hj', ← e]; rfl
    have := pair_inj h3 (List.getElem?_eq_getElem hi') e2
    rw [this]; exact hj
  unfold ksOf
  rw [← range_map (·.1) m]
  exact ((List.reverse_perm is).trans hp).filterMap _
theorem ClO.rowK (l : List MK) (n : Nat) : ClO (.cells (flatA 3 (l.map kA) ++ List.replicate n .top)) := fun ρ => by
  show AObj.cells (renL ρ _) = _
  rw [rowK_cl]
theorem Cl.keys (l : List MK) : Cl (.sl .none 3 (l.map kA)) := fun ρ => by
  have : ∀ l : List MK, renL ρ (l.map kA) = l.map kA := fun l => by
    induction l with
    | nil => rfl
    | cons k l ih =>
      show ren ρ (kA k) :: renL ρ (l.map kA) = _
      rw [ih]; rfl
  show AV.sl .none 3 (renL ρ _) = _
  rw [this]
theorem rep_keys {F : Fix} {V : View} : ∀ l : List MK, repL F V (l.map kA) (l.map fun k => .agg (encK k).toArray)
  | [] => rfl
  | _ :: l => ⟨_, _, rfl, rep_kA, rep_keys l⟩
theorem Le.nilsZero {h : Heap} {k : Nat} : Le h .nils (.sl .zero k []) := fun F V w x i r => by
  simp only [rep] at r ⊢
  exact .inr ⟨trivial, ⟨_, r⟩, trivial⟩
/-- What comes back: nothing, or a row of one's own. -/
def SrtEnd (m : List (MK × Int)) (l' : List MK) : AV → Heap → Nat → Prop := fun a h n =>
  Fit 2 (.sl .none 3 (l'.map kA)) (KH m) 2 a h n ∨ ∃ c pad, 2 ≤ n ∧ a = .vec 5 3 l'.length c ∧ HeapLe h ((5, .cells (flatA 3 (l'.map kA) ++ pad)) :: KH m) ∧ HeapCut 2 n (KH m)
@[reducible] noncomputable def kSt (m : List (MK × Int)) (bs : List Nat) (c : Nat) (x : KI m) : St := ⟨[(5, .ptr 4 0), (0, .yld 3)], (2, .cells [svK x.d x.l]) :: (4, .iter 0 c (seenOf bs x.is) c) :: (3, loopOf Try.f154 0 [(2, .ptr 2 0)] 13 .ready) :: (1, .cells [.map 0]) :: (0, .mapN (mE m) bs c) :: rowK x.d x.l, 6, 14⟩

theorem sortedF0 {m : List (MK × Int)} {l' : List MK} (hp : l'.Perm (m.map (·.1))) (hs : l'.Pairwise fun a b => ltK a b = true) (hl : m.length ≤ 1000000) :
    CallOK Try.prog 138 [.fn 150 [.ptr 1 0], .fn 140 []] (KH m) 2 (SrtEnd m l') := by
  refine callOK Try.call138 Try.func138 Try.ntmps138 rfl ?_
  (conv => arg 4; whnf); repeat (refine ⟨rfl, ?_⟩; conv => arg 4; whnf)
  refine callOK Try.call148 Try.func148 Try.ntmps148 rfl ?_
  (conv => arg 4; whnf); repeat (refine ⟨rfl, ?_⟩; conv => arg 4; whnf)
  refine callOK Try.call154 Try.func154 Try.ntmps154 rfl ?_
  (conv => arg 4; whnf); repeat (refine ⟨rfl, ?_⟩; conv => arg 4; whnf)
  refine callOK Try.call150 Try.func150 Try.ntmps150 rfl ?_
  (conv => arg 4; whnf); repeat (refine ⟨rfl, ?_⟩; conv => arg 4; whnf)
  intro bs c h1 h2 h3
  (conv => arg 4; whnf); repeat (refine ⟨rfl, ?_⟩; conv => arg 4; whnf)
  have h1 : bs.length = m.length := by simpa [mE] using h1
  refine tri_loopG (ι := KI m) (kSt m bs c) (fun x => bs.length - x.is.length) ⟨[], List.nodup_nil, (fun n hn => by cases hn), 0, [], rfl⟩ (WkG.of rfl rfl ⟨Le.refl _ _, Le.refl _ _, trivial⟩ ⟨⟨_, rfl, LeL.cons Le.nilsZero (LeL.nil _)⟩, ⟨_, rfl, LeO.refl _ _⟩, ⟨_, rfl, LeO.loop ⟨Le.refl _ _, trivial⟩ rfl rfl rfl⟩, ⟨_, rfl, LeO.refl _ _⟩, ⟨_, rfl, LeO.refl _ _⟩, trivial⟩ ⟨rfl, rfl, trivial⟩ ⟨⟨by decide, rfl⟩, ⟨by decide, rfl⟩, ⟨by decide, rfl⟩, ⟨by decide, rfl⟩, ⟨by decide, ClO.mN _ _ _ _⟩, trivial⟩) ?_
  rintro ⟨is, nd, lt, d, l, hl0⟩
  have hil : is.length ≤ m.length := nodup_len' nd lt
  conv => arg 4; whnf
  refine ⟨⟨h2, ?_⟩, fun i n kv hi hkv hn => ?_, fun hall => ?_⟩
  · exact .inr (rng_ok (by rw [h1]; simp [mE]) h2)
  · obtain ⟨x, hx, rfl⟩ := mE_get hkv
    (conv => arg 4; whnf); repeat (refine ⟨rfl, ?_⟩; conv => arg 4; whnf)
    refine ⟨i, _, hi, hkv, ?_⟩
    (conv => arg 4; whnf); repeat (refine ⟨rfl, ?_⟩; conv => arg 4; whnf)
    have hni : i ∉ is := fun h => hn (List.mem_map.2 ⟨i, h, by rw [List.getD_eq_getElem?_getD, hi]; rfl⟩)
    have hlt : i < m.length := (List.getElem?_eq_some_iff.1 hx).1
    have hil2 : is.length + 1 ≤ m.length := nodup_len' (l := i :: is) (List.nodup_cons.2 ⟨hni, nd⟩) fun j hj => by
      rcases List.mem_cons.1 hj with rfl | hj
      · exact hlt
      · exact lt j hj
    have hlt2 : ∀ j ∈ i :: is, j < m.length := fun j hj => by
      rcases List.mem_cons.1 hj with rfl | hj
      · exact hlt
      · exact lt j hj
    have hl2 : l ++ [x.1] = ksOf m (i :: is).reverse := by
      rw [List.reverse_cons]
      unfold ksOf at hl0 ⊢
      rw [List.filterMap_append, ← hl0]
      simp [hx]
    have hseen : n :: seenOf bs is = seenOf bs (i :: is) := by
      unfold seenOf
      rw [List.map_cons, List.getD_eq_getElem?_getD, hi]; rfl
    cases l with
    | nil =>
      refine round_in ?_
      (conv => arg 4; whnf); repeat (refine ⟨rfl, ?_⟩; conv => arg 4; whnf)
      refine ⟨sizeOk 40 rfl (by simp), Or.inr ?_⟩
      (conv => arg 4; whnf); repeat (refine ⟨rfl, ?_⟩; conv => arg 4; whnf)
      refine ⟨⟨by simp, fun a ha => by simp at ha; subst ha; rfl⟩, ?_⟩
      (conv => arg 4; whnf); repeat (refine ⟨rfl, ?_⟩; conv => arg 4; whnf)
      intro d'
      (conv => arg 4; whnf); repeat (refine ⟨rfl, ?_⟩; conv => arg 4; whnf)
      refine ⟨fun h => absurd h (by first | (simp; done) | (simp [u8s]; done)), fun _ => ?_⟩
      conv => arg 4; whnf
      refine ⟨⟨i :: is, List.nodup_cons.2 ⟨hni, nd⟩, hlt2, d', [x.1], hl2⟩, by show bs.length - (is.length + 1) < bs.length - is.length; omega, WkG.re 5 3 rfl rfl rfl rfl ⟨Le.refl _ _, Le.refl _ _, trivial⟩ ⟨⟨_, rfl, LeO.refl _ _⟩, ⟨_, rfl, ?_⟩, ⟨_, rfl, LeO.loop ⟨Le.refl _ _, trivial⟩ rfl rfl rfl⟩, ⟨_, rfl, LeO.refl _ _⟩, ⟨_, rfl, ?_⟩, ⟨_, rfl, ?_⟩, trivial⟩⟩
      · show LeO _ (.iter 0 c (n :: seenOf bs is) c) (.iter 0 c (seenOf bs (i :: is)) c)
        rw [hseen]; exact LeO.refl _ _
      · show LeO _ _ (renO _ (.mapN (mE m) bs c))
        rw [ClO.mN]; exact LeO.refl _ _
      · show LeL _ _ (renL _ _)
        rw [rowK_cl]
        exact LeL.refl _ _
    | cons k l =>
      refine round_in ?_
      (conv => arg 4; whnf); repeat (refine ⟨rfl, ?_⟩; conv => arg 4; whnf)
      refine ⟨⟨by rw [List.length_append, flatA_len, List.length_replicate, Nat.add_mul]; rfl, by simp, sizeOk 40 rfl ?_, fun a ha => by simp at ha; subst ha; rfl⟩, ?_⟩
      · have hkl : (k :: l).length ≤ is.length := by rw [hl0]; exact ks_len m is
        simp only [List.length_cons, List.length_nil] at hkl ⊢
        omega
      (conv => arg 4; whnf); repeat (refine ⟨rfl, ?_⟩; conv => arg 4; whnf)
      intro d'
      (conv => arg 4; whnf); repeat (refine ⟨rfl, ?_⟩; conv => arg 4; whnf)
      refine ⟨fun h => absurd h (by first | (simp; done) | (simp [u8s]; done)), fun _ => ?_⟩
      conv => arg 4; whnf
      refine ⟨⟨i :: is, List.nodup_cons.2 ⟨hni, nd⟩, hlt2, d', k :: (l ++ [x.1]), hl2⟩, by show bs.length - (is.length + 1) < bs.length - is.length; omega, WkG.re 5 3 rfl rfl rfl rfl ⟨Le.refl _ _, Le.refl _ _, trivial⟩ ⟨⟨_, rfl, LeL.cons (Le.of_eq ?_) (LeL.nil _)⟩, ⟨_, rfl, ?_⟩, ⟨_, rfl, LeO.loop ⟨Le.refl _ _, trivial⟩ rfl rfl rfl⟩, ⟨_, rfl, LeO.refl _ _⟩, ⟨_, rfl, ?_⟩, ⟨_, rfl, ?_⟩, trivial⟩⟩
      · show AV.vec 8 3 ((k :: l).length + 1) ((k :: l).length + 1 + d') = .vec 8 3 (k :: (l ++ [x.1])).length ((k :: (l ++ [x.1])).length + d')
        simp only [List.length_cons, List.length_append, List.length_nil]
      · show LeO _ (.iter 0 c (n :: seenOf bs is) c) (.iter 0 c (seenOf bs (i :: is)) c)
        rw [hseen]; exact LeO.refl _ _
      · show LeO _ _ (renO _ (.mapN (mE m) bs c))
        rw [ClO.mN]; exact LeO.refl _ _
      · show LeL _ _ (renL _ _)
        rw [rowK_cl, ← row_eq]
        exact LeL.refl _ _
  · have hks := ks_all h1 h3 nd lt hall
    rw [← hl0] at hks
    have hpl : l'.Perm l := hp.trans hks.symm
    cases l with
    | nil =>
      have e : l' = [] := List.Perm.eq_nil hpl
      subst e
      (conv => arg 4; whnf); repeat (refine ⟨rfl, ?_⟩; conv => arg 4; whnf)
      refine fin_exit ?_
      show holds _ _ _ _
      conv => arg 4; whnf
      refine ret_in ?_
      show holds _ _ _ _
      conv => arg 4; whnf
      refine ret_in ?_
      show holds _ _ _ _
      conv => arg 4; whnf
      refine ret_in ?_
      show holds _ _ _ _
      conv => arg 4; whnf
      refine holds_args (args' := [.sl .none 3 [], .fn 140 []]) ⟨Le.none, Le.refl _ _, trivial⟩ ?_
      refine call0 sortNone (fun ρ => rfl) (by (repeat' (first | with_reducible assumption | exact ClL.nil | exact Cl.int _ _ | exact Cl.bool _ | exact Cl.bl _ | exact Cl.bs _ | exact Cl.str _ | exact Cl.nils | exact Cl.nilp | exact Cl.rec _ | exact Cl.bat _ | exact Cl.recsV _ | exact Cl.strsV _ | exact Cl.intsV _ | exact Cl.req _ | exact Cl.rsp _ | exact Cl.reqA _ | exact Cl.rspA _ | exact Cl.batsV _ | exact Cl.prsV _ | exact Cl.atsV _ | exact Cl.entA _ _ | exact Cl.ent _ | exact Cl.rr _ _ | exact Cl.foundA _ | exact Cl.getB _ | exact Cl.encA _ | exact Cl.firstA _ | refine ClL.cons ?_ ?_ | refine Cl.tup ?_ | refine Cl.agg ?_ | exact ClO.RO _ _))) ?_
      (conv => arg 4; whnf); repeat (refine ⟨rfl, ?_⟩; conv => arg 4; whnf)
      exact .inl ⟨by decide, Le.none, ⟨⟨_, rfl, LeO.refl _ _⟩, ⟨_, rfl, rfl⟩, trivial⟩, rfl, ⟨⟨by decide, rfl⟩, ⟨by decide, ClO.mE _ _⟩, trivial⟩⟩
    | cons k l =>
      have hkl : (k :: l).length ≤ is.length := by rw [hl0]; exact ks_len m is
      (conv => arg 4; whnf); repeat (refine ⟨rfl, ?_⟩; conv => arg 4; whnf)
      refine fin_exit ?_
      show holds _ _ _ _
      conv => arg 4; whnf
      refine ret_in ?_
      show holds _ _ _ _
      conv => arg 4; whnf
      refine ret_in ?_
      show holds _ _ _ _
      conv => arg 4; whnf
      refine ret_in ?_
      show holds _ _ _ _
      conv => arg 4; whnf
      refine call1 5 (sortF (l := k :: l) (l' := l') (pad := List.replicate (d * width 3) .top) (c := (k :: l).length + d) hpl hs (by omega)) rfl rfl (ClO.rowK _ _) (ClO.rowK _ _) rfl (Cl.tup ClL.nil) ?_
      (conv => arg 4; whnf); repeat (refine ⟨rfl, ?_⟩; conv => arg 4; whnf)
      refine .inr ⟨(k :: l).length + d, List.replicate (d * width 3) .top, by decide, by rw [hpl.length_eq], ⟨⟨_, rfl, LeO.refl _ _⟩, ⟨_, rfl, LeO.refl _ _⟩, ⟨_, rfl, rfl⟩, trivial⟩, ⟨⟨by decide, rfl⟩, ⟨by decide, ClO.mE _ _⟩, trivial⟩⟩

theorem sortedF {m : List (MK × Int)} {l' : List MK} (hp : l'.Perm (m.map (·.1))) (hs : l'.Pairwise fun a b => ltK a b = true) (hl : m.length ≤ 1000000) :
    CallOK Try.prog 138 [.fn 150 [.ptr 1 0], .fn 140 []] (KH m) 2 (Out (.sl .none 3 (l'.map kA)) (KH m) 2) := by
  refine CallOK.fit (by decide) ((sortedF0 hp hs hl).ghost fun a h n hK => ?_)
  rcases hK with hK | ⟨c, pad, hn, rfl, hh, hc⟩
  · exact ⟨a, h, n, hK.1, Gh.le (fun _ => Le.refl _ _) (fun id o hg => ⟨o, hg, LeO.refl _ _⟩), hK⟩
  · refine ⟨.sl .none 3 (l'.map kA), KH m, n, hn, (Gh.le (fun _ => Le.refl _ _) hh.le).trans (Gh.freezeV (k := 3) (m := l'.length) (els := l'.map kA) (l := flatA 3 (l'.map kA) ++ pad) (id := 5) rfl (fun F V us hr _ => ?_) (fun _ => .inr (.inr ⟨c, rfl, rfl⟩)) ?_), ⟨hn, Le.refl _ _, ⟨⟨_, rfl, LeO.refl _ _⟩, ⟨_, rfl, LeO.refl _ _⟩, trivial⟩, Cl.keys _ _, hc⟩⟩
    · have h1 := hr.take (l'.length * 3)
      rw [List.take_left' (flatA_len l')] at h1
      have h1 := (rep_cells l' _).1 h1
      refine ⟨l'.map fun k => .agg (encK k).toArray, us.drop (l'.length * 3), by simp, ?_, ?_, ?_⟩
      · exact rep_keys l'
      · intro x hx
        obtain ⟨k, -, rfl⟩ := List.mem_map.1 hx
        exact ⟨_, rfl, rfl, encK_one k⟩
      · have e : flat (l'.map fun k => Value.agg (encK k).toArray) = l'.flatMap encK := by
          unfold flat
          rw [List.flatMap_map]
          rfl
        rw [e, ← h1, List.take_append_drop]
    · intro j o hg
      have : j = 1 ∨ j = 0 := by
        rw [get_cons'] at hg
        by_cases e : 1 = j
        · exact .inl e.symm
        · rw [if_neg e, get_cons'] at hg
          by_cases e : 0 = j
          · exact .inr e.symm
          · rw [if_neg e] at hg; cases hg
      rcases this with rfl | rfl
      · exact ⟨by decide, hg⟩
      · exact ⟨by decide, hg⟩
end Go.Proofs.Ytlifbhcmihnkpaa.Cm

namespace Go.Proofs.Ytlifbhcmihnkpaa.Cm
set_option maxRecDepth 100000
set_option maxHeartbeats 80000000
open Go.Sym

theorem applyOp {m : List (MK × Int)} {f : List (List UInt8 × Int)} {p : Opr} (h : p.ok) : CallOK Try.prog 49 [.ptr 2 0, p.rec'.av] (TH m f) 3 (Out (.int .i64 0) (TH (stepM m p) (stepF f p)) 3) := by
  cases p with
  | o e now =>
    have h : mayE e = true := h
    have hpl : mayE ⟨e.g, e.t, e.p, 0⟩ = true := by
      unfold mayE place at h ⊢
      simp only [Bool.and_eq_true, decide_eq_true_eq] at h ⊢
      exact ⟨h.1, by omega⟩
    exact applyO (m := m) (f := f) (r := recR (keyO e) e.o now) (e := e) (hv := true) rfl rfl rfl (fun _ => ⟨rfl, h⟩) hpl
  | g gr n now =>
    have h : mayG gr n = true ∧ 0 < n := h
    have hpl : mayG gr 0 = true := by
      have := h.1
      unfold mayG at this ⊢
      simp only [Bool.and_eq_true, decide_eq_true_eq] at this ⊢
      exact ⟨this.1, by omega⟩
    exact applyG (m := m) (f := f) (r := recR (keyG gr) n now) (g := gr) (n := n) (hv := true) rfl rfl rfl (fun _ => ⟨rfl, h.1⟩) hpl

theorem nilNone : CallOK Try.prog 97 [.nilp] [] 0 (Out (.bl true) [] 0) := by
  refine callOK Try.call97 Try.func97 Try.ntmps97 rfl ?_
  conv => arg 4; whnf
  exact ⟨rfl, rfl, rfl⟩
theorem nilGet {g t : List UInt8} {p : Int} : CallOK Try.prog 50 [.nilp, .str g, .str t, .int .i64 p] [] 0 (Out (.tup [.int .i64 0, .bl false]) [] 0) := by
  refine CallOK.fit (by decide) ?_
  refine callOK Try.call50 Try.func50 Try.ntmps50 rfl ?_
  conv => arg 4; whnf
  refine call0 nilNone (by (repeat' (first | with_reducible assumption | exact ClL.nil | exact Cl.int _ _ | exact Cl.bool _ | exact Cl.bl _ | exact Cl.bs _ | exact Cl.str _ | exact Cl.nils | exact Cl.nilp | exact Cl.rec _ | exact Cl.bat _ | exact Cl.recsV _ | exact Cl.strsV _ | exact Cl.intsV _ | exact Cl.req _ | exact Cl.rsp _ | exact Cl.reqA _ | exact Cl.rspA _ | exact Cl.batsV _ | exact Cl.prsV _ | exact Cl.atsV _ | exact Cl.entA _ _ | exact Cl.ent _ | exact Cl.rr _ _ | exact Cl.foundA _ | exact Cl.getB _ | exact Cl.encA _ | exact Cl.firstA _ | refine ClL.cons ?_ ?_ | refine Cl.tup ?_ | refine Cl.agg ?_ | exact ClO.RO _ _))) (by (repeat' (first | with_reducible assumption | exact ClL.nil | exact Cl.int _ _ | exact Cl.bool _ | exact Cl.bl _ | exact Cl.bs _ | exact Cl.str _ | exact Cl.nils | exact Cl.nilp | exact Cl.rec _ | exact Cl.bat _ | exact Cl.recsV _ | exact Cl.strsV _ | exact Cl.intsV _ | exact Cl.req _ | exact Cl.rsp _ | exact Cl.reqA _ | exact Cl.rspA _ | exact Cl.batsV _ | exact Cl.prsV _ | exact Cl.atsV _ | exact Cl.entA _ _ | exact Cl.ent _ | exact Cl.rr _ _ | exact Cl.foundA _ | exact Cl.getB _ | exact Cl.encA _ | exact Cl.firstA _ | refine ClL.cons ?_ ?_ | refine Cl.tup ?_ | refine Cl.agg ?_ | exact ClO.RO _ _))) ?_
  (conv => arg 4; whnf); repeat (refine ⟨rfl, ?_⟩; conv => arg 4; whnf)
  exact ⟨by decide, Le.refl _ _, trivial, (by (repeat' (first | with_reducible assumption | exact ClL.nil | exact Cl.int _ _ | exact Cl.bool _ | exact Cl.bl _ | exact Cl.bs _ | exact Cl.str _ | exact Cl.nils | exact Cl.nilp | exact Cl.rec _ | exact Cl.bat _ | exact Cl.recsV _ | exact Cl.strsV _ | exact Cl.intsV _ | exact Cl.req _ | exact Cl.rsp _ | exact Cl.reqA _ | exact Cl.rspA _ | exact Cl.batsV _ | exact Cl.prsV _ | exact Cl.atsV _ | exact Cl.entA _ _ | exact Cl.ent _ | exact Cl.rr _ _ | exact Cl.foundA _ | exact Cl.getB _ | exact Cl.encA _ | exact Cl.firstA _ | refine ClL.cons ?_ ?_ | refine Cl.tup ?_ | refine Cl.agg ?_ | exact ClO.RO _ _)) : Cl _) _, trivial⟩
theorem nilPut {e : Ent} : CallOK Try.prog 47 [.nilp, e.av] [] 0 (Out (.int .i64 1) [] 0) := by
  refine CallOK.fit (by decide) ?_
  refine callOK Try.call47 Try.func47 Try.ntmps47 rfl ?_
  conv => arg 4; whnf
  refine call0 nilNone (by (repeat' (first | with_reducible assumption | exact ClL.nil | exact Cl.int _ _ | exact Cl.bool _ | exact Cl.bl _ | exact Cl.bs _ | exact Cl.str _ | exact Cl.nils | exact Cl.nilp | exact Cl.rec _ | exact Cl.bat _ | exact Cl.recsV _ | exact Cl.strsV _ | exact Cl.intsV _ | exact Cl.req _ | exact Cl.rsp _ | exact Cl.reqA _ | exact Cl.rspA _ | exact Cl.batsV _ | exact Cl.prsV _ | exact Cl.atsV _ | exact Cl.entA _ _ | exact Cl.ent _ | exact Cl.rr _ _ | exact Cl.foundA _ | exact Cl.getB _ | exact Cl.encA _ | exact Cl.firstA _ | refine ClL.cons ?_ ?_ | refine Cl.tup ?_ | refine Cl.agg ?_ | exact ClO.RO _ _))) (by (repeat' (first | with_reducible assumption | exact ClL.nil | exact Cl.int _ _ | exact Cl.bool _ | exact Cl.bl _ | exact Cl.bs _ | exact Cl.str _ | exact Cl.nils | exact Cl.nilp | exact Cl.rec _ | exact Cl.bat _ | exact Cl.recsV _ | exact Cl.strsV _ | exact Cl.intsV _ | exact Cl.req _ | exact Cl.rsp _ | exact Cl.reqA _ | exact Cl.rspA _ | exact Cl.batsV _ | exact Cl.prsV _ | exact Cl.atsV _ | exact Cl.entA _ _ | exact Cl.ent _ | exact Cl.rr _ _ | exact Cl.foundA _ | exact Cl.getB _ | exact Cl.encA _ | exact Cl.firstA _ | refine ClL.cons ?_ ?_ | refine Cl.tup ?_ | refine Cl.agg ?_ | exact ClO.RO _ _))) ?_
  (conv => arg 4; whnf); repeat (refine ⟨rfl, ?_⟩; conv => arg 4; whnf)
  exact ⟨by decide, Le.refl _ _, trivial, (by (repeat' (first | with_reducible assumption | exact ClL.nil | exact Cl.int _ _ | exact Cl.bool _ | exact Cl.bl _ | exact Cl.bs _ | exact Cl.str _ | exact Cl.nils | exact Cl.nilp | exact Cl.rec _ | exact Cl.bat _ | exact Cl.recsV _ | exact Cl.strsV _ | exact Cl.intsV _ | exact Cl.req _ | exact Cl.rsp _ | exact Cl.reqA _ | exact Cl.rspA _ | exact Cl.batsV _ | exact Cl.prsV _ | exact Cl.atsV _ | exact Cl.entA _ _ | exact Cl.ent _ | exact Cl.rr _ _ | exact Cl.foundA _ | exact Cl.getB _ | exact Cl.encA _ | exact Cl.firstA _ | refine ClL.cons ?_ ?_ | refine Cl.tup ?_ | refine Cl.agg ?_ | exact ClO.RO _ _)) : Cl _) _, trivial⟩
theorem nilGen {g : List UInt8} {n : Int} : CallOK Try.prog 48 [.nilp, .str g, .int .i64 n] [] 0 (Out (.int .i64 1) [] 0) := by
  refine CallOK.fit (by decide) ?_
  refine callOK Try.call48 Try.func48 Try.ntmps48 rfl ?_
  conv => arg 4; whnf
  refine call0 nilNone (by (repeat' (first | with_reducible assumption | exact ClL.nil | exact Cl.int _ _ | exact Cl.bool _ | exact Cl.bl _ | exact Cl.bs _ | exact Cl.str _ | exact Cl.nils | exact Cl.nilp | exact Cl.rec _ | exact Cl.bat _ | exact Cl.recsV _ | exact Cl.strsV _ | exact Cl.intsV _ | exact Cl.req _ | exact Cl.rsp _ | exact Cl.reqA _ | exact Cl.rspA _ | exact Cl.batsV _ | exact Cl.prsV _ | exact Cl.atsV _ | exact Cl.entA _ _ | exact Cl.ent _ | exact Cl.rr _ _ | exact Cl.foundA _ | exact Cl.getB _ | exact Cl.encA _ | exact Cl.firstA _ | refine ClL.cons ?_ ?_ | refine Cl.tup ?_ | refine Cl.agg ?_ | exact ClO.RO _ _))) (by (repeat' (first | with_reducible assumption | exact ClL.nil | exact Cl.int _ _ | exact Cl.bool _ | exact Cl.bl _ | exact Cl.bs _ | exact Cl.str _ | exact Cl.nils | exact Cl.nilp | exact Cl.rec _ | exact Cl.bat _ | exact Cl.recsV _ | exact Cl.strsV _ | exact Cl.intsV _ | exact Cl.req _ | exact Cl.rsp _ | exact Cl.reqA _ | exact Cl.rspA _ | exact Cl.batsV _ | exact Cl.prsV _ | exact Cl.atsV _ | exact Cl.entA _ _ | exact Cl.ent _ | exact Cl.rr _ _ | exact Cl.foundA _ | exact Cl.getB _ | exact Cl.encA _ | exact Cl.firstA _ | refine ClL.cons ?_ ?_ | refine Cl.tup ?_ | refine Cl.agg ?_ | exact ClO.RO _ _))) ?_
  (conv => arg 4; whnf); repeat (refine ⟨rfl, ?_⟩; conv => arg 4; whnf)
  exact ⟨by decide, Le.refl _ _, trivial, (by (repeat' (first | with_reducible assumption | exact ClL.nil | exact Cl.int _ _ | exact Cl.bool _ | exact Cl.bl _ | exact Cl.bs _ | exact Cl.str _ | exact Cl.nils | exact Cl.nilp | exact Cl.rec _ | exact Cl.bat _ | exact Cl.recsV _ | exact Cl.strsV _ | exact Cl.intsV _ | exact Cl.req _ | exact Cl.rsp _ | exact Cl.reqA _ | exact Cl.rspA _ | exact Cl.batsV _ | exact Cl.prsV _ | exact Cl.atsV _ | exact Cl.entA _ _ | exact Cl.ent _ | exact Cl.rr _ _ | exact Cl.foundA _ | exact Cl.getB _ | exact Cl.encA _ | exact Cl.firstA _ | refine ClL.cons ?_ ?_ | refine Cl.tup ?_ | refine Cl.agg ?_ | exact ClO.RO _ _)) : Cl _) _, trivial⟩
theorem nilApply {r : Rec} : CallOK Try.prog 49 [.nilp, r.av] [] 0 (Out (.int .i64 1) [] 0) := by
  refine CallOK.fit (by decide) ?_
  refine callOK Try.call49 Try.func49 Try.ntmps49 rfl ?_
  conv => arg 4; whnf
  refine call0 nilNone (by (repeat' (first | with_reducible assumption | exact ClL.nil | exact Cl.int _ _ | exact Cl.bool _ | exact Cl.bl _ | exact Cl.bs _ | exact Cl.str _ | exact Cl.nils | exact Cl.nilp | exact Cl.rec _ | exact Cl.bat _ | exact Cl.recsV _ | exact Cl.strsV _ | exact Cl.intsV _ | exact Cl.req _ | exact Cl.rsp _ | exact Cl.reqA _ | exact Cl.rspA _ | exact Cl.batsV _ | exact Cl.prsV _ | exact Cl.atsV _ | exact Cl.entA _ _ | exact Cl.ent _ | exact Cl.rr _ _ | exact Cl.foundA _ | exact Cl.getB _ | exact Cl.encA _ | exact Cl.firstA _ | refine ClL.cons ?_ ?_ | refine Cl.tup ?_ | refine Cl.agg ?_ | exact ClO.RO _ _))) (by (repeat' (first | with_reducible assumption | exact ClL.nil | exact Cl.int _ _ | exact Cl.bool _ | exact Cl.bl _ | exact Cl.bs _ | exact Cl.str _ | exact Cl.nils | exact Cl.nilp | exact Cl.rec _ | exact Cl.bat _ | exact Cl.recsV _ | exact Cl.strsV _ | exact Cl.intsV _ | exact Cl.req _ | exact Cl.rsp _ | exact Cl.reqA _ | exact Cl.rspA _ | exact Cl.batsV _ | exact Cl.prsV _ | exact Cl.atsV _ | exact Cl.entA _ _ | exact Cl.ent _ | exact Cl.rr _ _ | exact Cl.foundA _ | exact Cl.getB _ | exact Cl.encA _ | exact Cl.firstA _ | refine ClL.cons ?_ ?_ | refine Cl.tup ?_ | refine Cl.agg ?_ | exact ClO.RO _ _))) ?_
  (conv => arg 4; whnf); repeat (refine ⟨rfl, ?_⟩; conv => arg 4; whnf)
  exact ⟨by decide, Le.refl _ _, trivial, (by (repeat' (first | with_reducible assumption | exact ClL.nil | exact Cl.int _ _ | exact Cl.bool _ | exact Cl.bl _ | exact Cl.bs _ | exact Cl.str _ | exact Cl.nils | exact Cl.nilp | exact Cl.rec _ | exact Cl.bat _ | exact Cl.recsV _ | exact Cl.strsV _ | exact Cl.intsV _ | exact Cl.req _ | exact Cl.rsp _ | exact Cl.reqA _ | exact Cl.rspA _ | exact Cl.batsV _ | exact Cl.prsV _ | exact Cl.atsV _ | exact Cl.entA _ _ | exact Cl.ent _ | exact Cl.rr _ _ | exact Cl.foundA _ | exact Cl.getB _ | exact Cl.encA _ | exact Cl.firstA _ | refine ClL.cons ?_ ?_ | refine Cl.tup ?_ | refine Cl.agg ?_ | exact ClO.RO _ _)) : Cl _) _, trivial⟩
theorem nilFloor {g : List UInt8} : CallOK Try.prog 51 [.nilp, .str g] [] 0 (Out (.int .i64 0) [] 0) := by
  refine CallOK.fit (by decide) ?_
  refine callOK Try.call51 Try.func51 Try.ntmps51 rfl ?_
  conv => arg 4; whnf
  refine call0 nilNone (by (repeat' (first | with_reducible assumption | exact ClL.nil | exact Cl.int _ _ | exact Cl.bool _ | exact Cl.bl _ | exact Cl.bs _ | exact Cl.str _ | exact Cl.nils | exact Cl.nilp | exact Cl.rec _ | exact Cl.bat _ | exact Cl.recsV _ | exact Cl.strsV _ | exact Cl.intsV _ | exact Cl.req _ | exact Cl.rsp _ | exact Cl.reqA _ | exact Cl.rspA _ | exact Cl.batsV _ | exact Cl.prsV _ | exact Cl.atsV _ | exact Cl.entA _ _ | exact Cl.ent _ | exact Cl.rr _ _ | exact Cl.foundA _ | exact Cl.getB _ | exact Cl.encA _ | exact Cl.firstA _ | refine ClL.cons ?_ ?_ | refine Cl.tup ?_ | refine Cl.agg ?_ | exact ClO.RO _ _))) (by (repeat' (first | with_reducible assumption | exact ClL.nil | exact Cl.int _ _ | exact Cl.bool _ | exact Cl.bl _ | exact Cl.bs _ | exact Cl.str _ | exact Cl.nils | exact Cl.nilp | exact Cl.rec _ | exact Cl.bat _ | exact Cl.recsV _ | exact Cl.strsV _ | exact Cl.intsV _ | exact Cl.req _ | exact Cl.rsp _ | exact Cl.reqA _ | exact Cl.rspA _ | exact Cl.batsV _ | exact Cl.prsV _ | exact Cl.atsV _ | exact Cl.entA _ _ | exact Cl.ent _ | exact Cl.rr _ _ | exact Cl.foundA _ | exact Cl.getB _ | exact Cl.encA _ | exact Cl.firstA _ | refine ClL.cons ?_ ?_ | refine Cl.tup ?_ | refine Cl.agg ?_ | exact ClO.RO _ _))) ?_
  (conv => arg 4; whnf); repeat (refine ⟨rfl, ?_⟩; conv => arg 4; whnf)
  exact ⟨by decide, Le.refl _ _, trivial, (by (repeat' (first | with_reducible assumption | exact ClL.nil | exact Cl.int _ _ | exact Cl.bool _ | exact Cl.bl _ | exact Cl.bs _ | exact Cl.str _ | exact Cl.nils | exact Cl.nilp | exact Cl.rec _ | exact Cl.bat _ | exact Cl.recsV _ | exact Cl.strsV _ | exact Cl.intsV _ | exact Cl.req _ | exact Cl.rsp _ | exact Cl.reqA _ | exact Cl.rspA _ | exact Cl.batsV _ | exact Cl.prsV _ | exact Cl.atsV _ | exact Cl.entA _ _ | exact Cl.ent _ | exact Cl.rr _ _ | exact Cl.foundA _ | exact Cl.getB _ | exact Cl.encA _ | exact Cl.firstA _ | refine ClL.cons ?_ ?_ | refine Cl.tup ?_ | refine Cl.agg ?_ | exact ClO.RO _ _)) : Cl _) _, trivial⟩

theorem succ18 {i : Nat} (h : i < 1000000000000001) : AV.int .i64 (IntKind.i64.wrap ((i : Int) + 1)) = AV.int .i64 ((i + 1 : Nat) : Int) := by
  have : IntKind.i64.wrap ((i : Int) + 1) = ((i + 1 : Nat) : Int) := by rw [IntKind.wrap_i64]; omega
  rw [this]

structure Stp where
  kind : Int
  e : Ent
  n : Int
  r : Rec
def Stp.av (s : Stp) : AV := .agg [.int .i64 s.kind, .str s.e.g, .str s.e.t, .int .i64 s.e.p, .int .i64 s.e.o, .int .i64 s.n, .int .i64 s.r.off, .int .i64 s.r.time, .bool s.r.hk, bs s.r.key, .bool s.r.hv, bs s.r.val]
def stpsL (l : List Stp) : List AV := l.map Stp.av
abbrev stpsV (l : List Stp) : AV := .sl .none 12 (stpsL l)
def Stp.fine (s : Stp) : Prop := s.e.g.length ≤ 1000000000000000 ∧ s.e.t.length ≤ 1000000000000000 ∧ s.r.key.length ≤ 1000000000000000 ∧ s.r.val.length ≤ 1000000000000000
def Stp.lit (s : Stp) : Prop := s.e.g.length ≤ 2000 ∧ s.e.t.length ≤ 2000 ∧ s.r.key.length ≤ 2000 ∧ s.r.val.length ≤ 2000
theorem stps_length (l : List Stp) : (stpsL l).length = l.length := by simp [stpsL]
theorem stps_get {l : List Stp} {i : Nat} {x : Stp} (h : l[i]? = some x) : (stpsL l)[((i : Nat) : Int).toNat]? = some x.av := by simp [stpsL, h]
theorem Cl.stp (s : Stp) : Cl s.av := Cl.agg (ClL.cons (Cl.int _ _) (ClL.cons (Cl.str _) (ClL.cons (Cl.str _) (ClL.cons (Cl.int _ _) (ClL.cons (Cl.int _ _) (ClL.cons (Cl.int _ _) (ClL.cons (Cl.int _ _) (ClL.cons (Cl.int _ _) (ClL.cons (Cl.bool _) (ClL.cons (Cl.bs _) (ClL.cons (Cl.bool _) (ClL.cons (Cl.bs _) ClL.nil))))))))))))
theorem Cl.stpsV (l : List Stp) : Cl (stpsV l) := Cl.sl (ClL.map Cl.stp l)

structure SmI (l : List Stp) where
  i : Nat
  n : Int
  hi : i ≤ l.length
  hn : 0 ≤ n ∧ n ≤ 1099511627776
  hs : n ≤ 2000 → ∀ (j : Nat) (s : Stp), j < i → l[j]? = some s → s.lit

theorem small18 {l : List Stp} (hl : l.length ≤ 1000000000000000) (hf : ∀ s ∈ l, s.fine) : CallOK Try.prog 53 [stpsV l] [] 0 (fun a h m => ∃ b : Bool, (b = true → l.length ≤ 80 ∧ ∀ s ∈ l, s.lit) ∧ Out (.bool b) [] 0 a h m) := by
  refine CallOK.fitE (by decide) ?_
  refine callOK Try.call53 Try.func53 Try.ntmps53 rfl ?_
  conv => arg 4; whnf
  refine tri_loopG (ι := SmI l) (fun x => ⟨[(4, .int .i64 x.i), (3, .int .i64 x.n), (0, stpsV l)], [], 0, 53⟩) (fun x => l.length - x.i) ⟨0, 0, Nat.zero_le _, by omega, fun _ j s hj => absurd hj (Nat.not_lt_zero _)⟩ (WkG.of rfl rfl ⟨Le.refl _ _, Le.refl _ _, Le.refl _ _, trivial⟩ trivial ⟨rfl, rfl, Cl.stpsV _ _, trivial⟩ trivial) ?_
  rintro ⟨i, n, hi, hn, hs⟩
  dsimp only
  conv => arg 4; whnf
  refine ⟨fun h => ?_, fun h => ?_⟩
  · rw [stps_length] at h
    simp only [Bool.cond_true_left, Bool.cond_false_right, Bool.or_eq_true, Bool.and_eq_true, Bool.not_eq_true', decide_eq_true_eq, beq_iff_eq, bne_iff_ne, u8s_length, Bool.not_eq_true, gt_iff_lt, ge_iff_le] at h
    have hlt : i < l.length := by omega
    obtain ⟨x, hx⟩ : ∃ x, l[i]? = some x := ⟨_, List.getElem?_eq_getElem hlt⟩
    (conv => arg 4; whnf); repeat (refine ⟨rfl, ?_⟩; conv => arg 4; whnf)
    repeat (refine ⟨x.av, ⟨by omega, stps_get hx⟩, ?_⟩; (conv => arg 4; whnf); (repeat (refine ⟨rfl, ?_⟩; conv => arg 4; whnf)))
    have hx0 : ∀ y ∈ (x.e.g.length : Int) :: [(x.e.t.length : Int), (x.r.key.length : Int), (x.r.val.length : Int), 1], 0 ≤ y := by
      intro y hy
      simp only [List.mem_cons, List.not_mem_nil, or_false] at hy
      omega
    refine holds_args (args' := [.int .i64 n, .sl .none 0 (ints [(x.e.g.length : Int), x.e.t.length, x.r.key.length, x.r.val.length, 1])]) ⟨Le.refl _ _, Le.noneOf (by rw [u8s_length, u8s_length]; rfl), trivial⟩ ?_
    refine call0E (sumE (n := n) (x := (x.e.g.length : Int)) (xs := [(x.e.t.length : Int), (x.r.key.length : Int), (x.r.val.length : Int), 1]) ⟨hn.1, by omega⟩ hx0 (by simp)) (ClL.cons (Cl.int _ _) (ClL.cons (Cl.intsV _) ClL.nil)) (fun x => by (repeat' (first | with_reducible assumption | exact ClL.nil | exact Cl.int _ _ | exact Cl.bool _ | exact Cl.bl _ | exact Cl.bs _ | exact Cl.str _ | exact Cl.nils | exact Cl.nilp | exact Cl.rec _ | exact Cl.bat _ | exact Cl.recsV _ | exact Cl.strsV _ | exact Cl.intsV _ | exact Cl.req _ | exact Cl.rsp _ | exact Cl.reqA _ | exact Cl.rspA _ | exact Cl.batsV _ | exact Cl.prsV _ | exact Cl.atsV _ | exact Cl.entA _ _ | exact Cl.ent _ | exact Cl.rr _ _ | exact Cl.foundA _ | exact Cl.getB _ | exact Cl.encA _ | exact Cl.firstA _ | refine ClL.cons ?_ ?_ | refine Cl.tup ?_ | refine Cl.agg ?_ | exact ClO.RO _ _))) fun v hv => ?_
    (conv => arg 4; whnf); repeat (refine ⟨rfl, ?_⟩; conv => arg 4; whnf)
    have hv2 : v < 1099511627776 → v = n + (x.e.g.length + (x.e.t.length + (x.r.key.length + (x.r.val.length + 1)))) := fun h => by
      have := hv.2.2 h
      simp only [List.sum_cons, List.sum_nil] at this
      omega
    refine ⟨⟨i + 1, v, by omega, ⟨hv.1, hv.2.1⟩, fun h2 j s hj hs' => ?_⟩, by show l.length - (i + 1) < l.length - i; omega, WkG.of rfl rfl ⟨Le.of_eq (succ18 (by omega)), Le.refl _ _, Le.refl _ _, trivial⟩ trivial ⟨rfl, rfl, Cl.stpsV _ _, trivial⟩ trivial⟩
    have hv3 := hv2 (by omega)
    rcases Nat.lt_or_ge j i with q | q
    · exact hs (by omega) j s q hs'
    · have : j = i := by omega
      subst this
      rw [hx] at hs'
      cases hs'
      unfold Stp.lit
      omega
  · rw [stps_length] at h
    rw [← Bool.not_eq_true] at h; simp only [Bool.cond_true_left, Bool.cond_false_right, Bool.or_eq_true, Bool.and_eq_true, Bool.not_eq_true', decide_eq_true_eq, beq_iff_eq, bne_iff_ne, u8s_length, gt_iff_lt, ge_iff_le] at h
    (conv => arg 4; whnf); repeat (refine ⟨rfl, ?_⟩; conv => arg 4; whnf)
    refine fin_exit ?_
    show holds _ _ _ _
    conv => arg 4; whnf
    refine ⟨bif decide (n ≤ 2000) then decide (((stpsL l).length : Int) ≤ 80) else false, fun hb => ?_, by decide, Le.refl _ _, trivial, (Cl.bool _) _, trivial⟩
    rw [stps_length] at hb
    simp only [Bool.cond_true_left, Bool.cond_false_right, Bool.or_eq_true, Bool.and_eq_true, Bool.not_eq_true', decide_eq_true_eq, beq_iff_eq, bne_iff_ne, u8s_length, Bool.not_eq_true, gt_iff_lt, ge_iff_le] at hb
    refine ⟨by omega, fun s hs' => ?_⟩
    obtain ⟨j, hj⟩ := List.mem_iff_getElem?.1 hs'
    have hjl := (List.getElem?_eq_some_iff.1 hj).1
    exact hs hb.1 j s (by omega) hj
end Go.Proofs.Ytlifbhcmihnkpaa.Cm
