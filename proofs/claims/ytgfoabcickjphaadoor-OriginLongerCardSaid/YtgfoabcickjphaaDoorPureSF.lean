/- Differences, cuts, union and intersection, in plain Lean. -/
import Derived.Test.YtgfoabcickjphaaDoorPureSM
import Derived.Test.YtgfoabcickjphaaDoorPureX
namespace Go.Proofs.YtgfoabcickjphaaDoor
open Go Go.Vc
def cutx (t : Nat) : Nat → List Iv → List Iv
 | f, [] => [(f, t)]
 | f, y :: ys => if y.2 < f ∨ t < y.1 then cutx t f ys else (if f < y.1 then [(f, y.1 - 1)] else []) ++ (if t ≤ y.2 then [] else cutx t (y.2 + 1) ys)
theorem vl_app {l m : List Iv} (hl : VL l) (hm : VL m) (h : ∀ x ∈ l, ∀ y ∈ m, x.2 + 1 < y.1) : VL (l ++ m) :=
 ⟨fun x hx => (List.mem_append.1 hx).elim (hl.1 x) (hm.1 x), List.pairwise_append.2 ⟨hl.2, hm.2, h⟩⟩
theorem vl_one {x : Iv} (h : x.1 ≤ x.2) : VL [x] := ⟨fun y hy => by rw [List.mem_singleton.1 hy]; exact h, List.pairwise_singleton _ _⟩
theorem inI_fst {l : List Iv} (h : VL l) {x : Iv} (hx : x ∈ l) : inI x.1 l := ⟨x, hx, Nat.le_refl _, h.1 x hx⟩
structure CutOk (t f : Nat) (ys l : List Iv) : Prop where
 vl : VL l
 is : ∀ n, inI n l ↔ (f ≤ n ∧ n ≤ t) ∧ ¬ inI n ys
 bd : ∀ z ∈ l, f ≤ z.1 ∧ z.2 ≤ t
 len : l.length ≤ ys.length + 1
theorem cutx_ok (t : Nat) : ∀ (ys : List Iv) (f : Nat), VL ys → f ≤ t → CutOk t f ys (cutx t f ys)
 | [], f, _, h => by
  unfold cutx
  refine ⟨vl_one h, fun n => ?_, fun z hz => ?_, Nat.le_refl _⟩
  ·rw [inI_one]
   exact ⟨fun e => ⟨e, inI_nil⟩, fun e => e.1⟩
  ·rw [List.mem_singleton.1 hz]; exact ⟨Nat.le_refl _, Nat.le_refl _⟩
 | y :: ys, f, hv, h => by
  have hy := hv.1 y (List.mem_cons_self ..)
  have hh := fun n => hv.head (n := n)
  unfold cutx
  by_cases c : y.2 < f ∨ t < y.1
  ·rw [if_pos c]
   obtain ⟨i1, i2, i3, i4⟩ := cutx_ok t ys f hv.tail h
   refine ⟨i1, fun n => ?_, i3, by simp only [List.length_cons]; omega⟩
   rw [i2, inI_cons]
   exact ⟨fun e => ⟨e.1, fun k => k.elim (fun k => by have := e.1; omega) e.2⟩, fun e => ⟨e.1, fun k => e.2 (.inr k)⟩⟩
  ·rw [if_neg c]
   have P : VL (if f < y.1 then [(f, y.1 - 1)] else []) ∧ (∀ n, inI n (if f < y.1 then [(f, y.1 - 1)] else []) ↔ f ≤ n ∧ n < y.1) ∧ (∀ z ∈ (if f < y.1 then [(f, y.1 - 1)] else []), f ≤ z.1 ∧ z.2 + 1 = y.1) ∧ (if f < y.1 then [(f, y.1 - 1)] else []).length ≤ 1 := by
    by_cases d : f < y.1
    ·rw [if_pos d]
     refine ⟨vl_one (by simp only; omega), fun n => ?_, fun z hz => ?_, Nat.le_refl _⟩
     ·rw [inI_one]; simp only; omega
     ·rw [List.mem_singleton.1 hz]; simp only; omega
    ·rw [if_neg d]
     exact ⟨vl_nil, fun n => ⟨fun e => (inI_nil e).elim, fun e => by omega⟩, fun z hz => (by cases hz), Nat.zero_le _⟩
   generalize (if f < y.1 then [(f, y.1 - 1)] else []) = p at P
   obtain ⟨p1, p2, p3, p4⟩ := P
   by_cases d : t ≤ y.2
   ·rw [if_pos d, List.append_nil]
    refine ⟨p1, fun n => ?_, fun z hz => ?_, by simp only [List.length_cons]; omega⟩
    ·rw [p2, inI_cons]
     constructor
     ·intro e
      refine ⟨by omega, fun k => k.elim (fun k => by omega) fun k => ?_⟩
      have := hh n k
      omega
     ·rintro ⟨e, k⟩
      refine ⟨e.1, ?_⟩
      rcases Nat.lt_or_ge n y.1 with g | g
      ·exact g
      ·exact (k (.inl ⟨g, by omega⟩)).elim
    ·have := p3 z hz
     omega
   ·rw [if_neg d]
    obtain ⟨i1, i2, i3, i4⟩ := cutx_ok t ys (y.2 + 1) hv.tail (by omega)
    refine ⟨vl_app p1 i1 fun x hx z hz => ?_, fun n => ?_, fun z hz => ?_, by simp only [List.length_append, List.length_cons]; omega⟩
    ·have := (p3 x hx).2
     have := (i3 z hz).1
     omega
    ·rw [inI_app, p2, i2, inI_cons]
     constructor
     ·rintro (e | e)
      ·refine ⟨by omega, fun k => k.elim (fun k => by omega) fun k => ?_⟩
       have := hh n k
       omega
      ·exact ⟨by omega, fun k => k.elim (fun k => by omega) e.2⟩
     ·rintro ⟨e, k⟩
      rcases Nat.lt_or_ge n y.1 with g | g
      ·exact .inl ⟨e.1, g⟩
      ·right
       refine ⟨⟨?_, e.2⟩, fun k2 => k (.inr k2)⟩
       rcases Nat.lt_or_ge y.2 n with g2 | g2
       ·exact g2
       ·exact (k (.inl ⟨g, g2⟩)).elim
    ·rcases List.mem_append.1 hz with hz | hz
     ·have := p3 z hz
      omega
     ·have := i3 z hz
      omega
def minusL (a b : List Iv) : List Iv := a.flatMap fun x => cutx x.2 x.1 b
theorem minusL_ok {b : List Iv} (hb : VL b) : ∀ {a : List Iv}, VL a → VL (minusL a b) ∧ (∀ n, inI n (minusL a b) ↔ inI n a ∧ ¬ inI n b) ∧ (minusL a b).length ≤ a.length * (b.length + 1)
 | [], _ => ⟨vl_nil, fun n => ⟨fun e => (inI_nil e).elim, fun e => (inI_nil e.1).elim⟩, by simp [minusL]⟩
 | x :: a, ha => by
  obtain ⟨i1, i2, i3⟩ := minusL_ok hb ha.tail
  obtain ⟨c1, c2, c3, c4⟩ := cutx_ok x.2 b x.1 hb (ha.1 x (List.mem_cons_self ..))
  have e : minusL (x :: a) b = cutx x.2 x.1 b ++ minusL a b := by unfold minusL; rw [List.flatMap_cons]
  rw [e]
  refine ⟨vl_app c1 i1 fun y hy z hz => ?_, fun n => ?_, ?_⟩
  ·have h1 := (c3 y hy).2
   have h2 := ha.head ((i2 z.1).1 (inI_fst i1 hz)).1
   omega
  ·rw [inI_app, c2, i2, inI_cons]
   constructor
   ·rintro (h | h)
    ·exact ⟨.inl h.1, h.2⟩
    ·exact ⟨.inr h.1, h.2⟩
   ·rintro ⟨h | h, k⟩
    ·exact .inl ⟨h, k⟩
    ·exact .inr ⟨h, k⟩
  ·rw [List.length_append, List.length_cons, Nat.succ_mul]
   omega
def PrevF (a : api_Addr) : api_Addr × Bool := if nA a = 0 then (api_Addr.mk false 0 0, false) else (mkA a.fV6 (nA a - 1), true)
theorem before_eq {a : api_Addr} (ha : aV a) : resource_before a = some (PrevF a) := by
 obtain ⟨hi, lo, b1, b2, e1, e2, e3⟩ := next_parts a ha
 obtain ⟨v, H, L⟩ := a
 simp only at e1 e2 e3
 subst e1 e2
 refine Tot.eq ?_
 unfold resource_before PrevF
 simp only
 rw [e3]
 refine Tot.ite (fun h => Tot.some ?_) (fun h => ?_)
 ·simp only [Bool.and_eq_true, beq_iff_eq] at h
  rw [if_pos (by omega)]
 ·have hne : ¬ hi * 18446744073709551616 + lo = 0 := by
   intro e
   have h1 : hi = 0 := by omega
   have h2 : lo = 0 := by omega
   subst h1 h2
   simp at h
  rw [if_neg hne]
  refine Tot.jnR (fun m : api_Addr => m = if lo = 0 then api_Addr.mk v ((hi - 1 : Nat) : Int) 0 else api_Addr.mk v hi lo) (fun j hj => Tot.ite (fun h2 => hj _ ?_) (fun h2 => hj _ ?_)) (fun m hm => ?_)
  ·have h2 : lo = 0 := by have := beq_iff_eq.1 h2; omega
   subst h2
   rw [if_pos rfl]
   have : IntKind.u64.wrap ((hi : Int) - 1) = ((hi - 1 : Nat) : Int) := by rw [IntKind.wrap_u64]; omega
   rw [this]
   rfl
  ·have h2 : ¬ lo = 0 := by have := beq_eq_false_iff_ne.1 h2; omega
   rw [if_neg h2]
  ·subst hm
   refine Tot.some ?_
   unfold mkA
   by_cases c : lo = 0
   ·subst c
    rw [if_pos rfl]
    simp only
    have e1 : IntKind.u64.wrap ((0 : Int) - 1) = 18446744073709551615 := by decide
    rw [e1]
    congr 2 <;> omega
   ·rw [if_neg c]
    simp only
    have e1 : IntKind.u64.wrap ((lo : Int) - 1) = ((lo - 1 : Nat) : Int) := by rw [IntKind.wrap_u64]; omega
    rw [e1]
    congr 2 <;> omega
theorem prev_rk {a : api_Addr} (ha : aV a) (h : (PrevF a).2 = true) : aV (PrevF a).1 ∧ rk (PrevF a).1 + 1 = rk a ∧ (PrevF a).1.fV6 = a.fV6 := by
 unfold PrevF at h ⊢
 by_cases c : nA a = 0
 ·rw [if_pos c] at h; cases h
 ·rw [if_neg c]
  have := aV_lt ha
  refine ⟨mkA_V (by omega), ?_, rfl⟩
  unfold rk
  simp only [mkA_v6, nA_mkA]
  split <;> omega
theorem prev_none {a b : api_Addr} (hv : b.fV6 = a.fV6) (h : (PrevF a).2 = false) : rk a ≤ rk b := by
 unfold PrevF at h
 by_cases c : nA a = 0
 ·exact (rk_num hv.symm).2 (by omega)
 ·rw [if_neg c] at h; cases h
theorem fam_meet {x y : api_Addr_} (hx : aV x.ffrom ∧ aV x.fto ∧ x.ffrom.fV6 = x.fto.fV6) (hy : aV y.ffrom ∧ aV y.fto ∧ y.ffrom.fV6 = y.fto.fV6) (h1 : ¬ rk y.fto < rk x.ffrom) (h2 : ¬ rk x.fto < rk y.ffrom) : x.ffrom.fV6 = y.ffrom.fV6 := by
 cases a : x.ffrom.fV6 <;> cases b : y.ffrom.fV6
 ·rfl
 ·have e1 := rk4 hx.2.1 (hx.2.2.symm.trans a)
  have e2 := rk6 b
  omega
 ·have e1 := rk6 a
  have e2 := rk4 hy.2.1 (hy.2.2.symm.trans b)
  omega
 ·rfl
structure Cst (x x' : api_Addr_) : Prop where
 f : aV x'.ffrom
 t : x'.fto = x.fto
 v : x'.ffrom.fV6 = x.fto.fV6
 le : rk x'.ffrom ≤ rk x.fto
def fin1 {α : Type} (p : Bool × α × List α) : List α := if p.1 = true then p.2.2 ++ [p.2.1] else p.2.2
theorem minus_in {b : List api_Addr_} (hb : AVp b) (hk : okI (b.map ivP)) (hl : b.length ≤ 1000000) {x : api_Addr_} (hx : aV x.ffrom ∧ aV x.fto ∧ x.ffrom.fV6 = x.fto.fV6) (hle : rk x.ffrom ≤ rk x.fto) {acc : List api_Addr_} (ha : AVp acc) (hal : acc.length + b.length ≤ 3000000000) :
  Tot (loop (resource_order_minus_L1 b) ((0 : Int), x, acc)) (fun p => AVp (fin1 p) ∧ (fin1 p).map ivP = acc.map ivP ++ cutx (rk x.fto) (rk x.ffrom) (b.map ivP) ∧ p.2.2.length ≤ acc.length + b.length) := by
 refine Tot.rng b.length (fun k (s : api_Addr_ × List api_Addr_) => (((k : Nat) : Int), s.1, s.2)) (fun k s => (Cst x s.1 ∧ AVp s.2 ∧ s.2.length ≤ acc.length + k) ∧ s.2.map ivP ++ cutx (rk x.fto) (rk s.1.ffrom) ((b.map ivP).drop k) = acc.map ivP ++ cutx (rk x.fto) (rk x.ffrom) (b.map ivP)) _ (x, acc) rfl ⟨⟨⟨hx.1, rfl, hx.2.2, hle⟩, ha, Nat.le_refl _⟩, rfl⟩ (fun k s hk2 hs => ?_) (fun s hs => ?_)
 ·obtain ⟨⟨⟨c1, c2, c3, c4⟩, c5, c6⟩, c7⟩ := hs
  have hw : w64 ((k : Int) + 1) = ((k + 1 : Nat) : Int) := by rw [w64_id (by omega) (by omega)]; rfl
  have hy := hb _ (List.getElem_mem hk2)
  have hyk : rk b[k].ffrom ≤ rk b[k].fto := hk (ivP b[k]) (List.mem_map_of_mem (List.getElem_mem hk2))
  have hkm : k < (b.map ivP).length := by simpa using hk2
  rw [List.drop_eq_getElem_cons hkm] at c7
  have hgk : (b.map ivP)[k] = ivP b[k] := by simp
  rw [hgk] at c7
  have hs1 : aV s.1.ffrom ∧ aV s.1.fto ∧ s.1.ffrom.fV6 = s.1.fto.fV6 := ⟨c1, by rw [c2]; exact hx.2.1, by rw [c2]; exact c3⟩
  unfold resource_order_minus_L1
  refine Tot.iteT (by simpa using hk2) (Tot.jnR (fun m : api_Addr_ × List api_Addr_ => (Cst x m.1 ∧ AVp m.2 ∧ m.2.length ≤ acc.length + (k + 1)) ∧ m.2.map ivP ++ cutx (rk x.fto) (rk m.1.ffrom) ((b.map ivP).drop (k + 1)) = acc.map ivP ++ cutx (rk x.fto) (rk x.ffrom) (b.map ivP)) (fun j hj => ?_) (fun m hm => Tot.step m (by rw [hw]) hm))
  refine Tot.bindIdx k rfl hk2 (Tot.jnR (fun m : Bool => m = true ↔ (rk b[k].fto < rk s.1.ffrom ∨ rk x.fto < rk b[k].ffrom)) (fun j2 hj2 => ?_) (fun m hm => Tot.ite (fun h => hj _ ⟨⟨⟨c1, c2, c3, c4⟩, c5, by simp only; omega⟩, ?_⟩) (fun h => ?_)))
  ·refine Tot.bindOf (acmp_eq hy.2.1.1 c1.1) (Tot.ite (fun h => hj2 _ ⟨fun _ => .inl ((cmpA_lt hy.2.1 c1).1 (of_decide_eq_true h)), fun _ => rfl⟩) (fun h => Tot.bindOf (acmp_eq hy.1.1 hs1.2.1.1) (hj2 _ ?_)))
   have h := of_decide_eq_false h
   rw [cmpA_lt hy.2.1 c1] at h
   rw [decide_eq_true_iff, cmpA_pos hy.1 hs1.2.1, c2]
   exact ⟨.inr, fun e => e.resolve_left h⟩
  ·have h := hm.1 h
   rw [← c7]
   congr 1
   exact (if_pos h).symm
  ·have hno : ¬ (rk b[k].fto < rk s.1.ffrom ∨ rk x.fto < rk b[k].ffrom) := fun e => by rw [hm.2 e] at h; cases h
   have hfam : s.1.ffrom.fV6 = b[k].ffrom.fV6 := fam_meet hs1 hy (fun e => hno (.inl e)) (fun e => hno (.inr (by rw [c2] at e; exact e)))
   have e7 : s.2.map ivP ++ ((if rk s.1.ffrom < rk b[k].ffrom then [(rk s.1.ffrom, rk b[k].ffrom - 1)] else []) ++ (if rk x.fto ≤ rk b[k].fto then [] else cutx (rk x.fto) (rk b[k].fto + 1) ((b.map ivP).drop (k + 1)))) = acc.map ivP ++ cutx (rk x.fto) (rk x.ffrom) (b.map ivP) := by
    rw [← c7]
    congr 1
    exact (if_neg hno).symm
   obtain ⟨pv, ep, pvt, pvf⟩ : ∃ pv, resource_before b[k].ffrom = some pv ∧ (pv.2 = true → aV pv.1 ∧ rk pv.1 + 1 = rk b[k].ffrom ∧ pv.1.fV6 = b[k].ffrom.fV6) ∧ (pv.2 = false → rk b[k].ffrom ≤ rk s.1.ffrom) := ⟨PrevF b[k].ffrom, before_eq hy.1, prev_rk hy.1, prev_none hfam⟩
   obtain ⟨nx, en, nxt, nxf⟩ : ∃ nx, addr_Next b[k].fto = some nx ∧ (nx.2 = true → aV nx.1 ∧ rk nx.1 = rk b[k].fto + 1 ∧ nx.1.fV6 = b[k].fto.fV6) ∧ (nx.2 = false → rk x.fto ≤ rk b[k].fto) := ⟨NextF b[k].fto, anext_eq hy.2.1, next_rk, rk_last hy.2.1 hx.2.1 (by rw [← hy.2.2, ← hfam]; exact c3)⟩
   refine Tot.bindOf ep (Tot.jnR (fun m : Bool => m = true ↔ rk s.1.ffrom < rk b[k].ffrom) (fun j3 hj3 => Tot.ite (fun h3 => Tot.bindOf (acmp_eq c1.1 (pvt h3).1.1) (hj3 _ ?_)) (fun h3 => hj3 _ ?_)) (fun m615 hm3 => ?_))
   ·obtain ⟨n1, n2, n3⟩ := pvt h3
    rw [decide_eq_true_iff, cmpA_le c1 n1]
    omega
   ·have := pvf h3
    exact ⟨fun e => (by cases e), fun e => by omega⟩
   ·refine Tot.jnR (fun m : List api_Addr_ => AVp m ∧ m.length ≤ acc.length + k + 1 ∧ m.map ivP = s.2.map ivP ++ (if rk s.1.ffrom < rk b[k].ffrom then [(rk s.1.ffrom, rk b[k].ffrom - 1)] else [])) (fun j4 hj4 => Tot.ite (fun h4 => ?_) (fun h4 => hj4 _ ⟨c5, by simp only; omega, ?_⟩)) (fun m619 hm4 => ?_)
    ·have h5 := hm3.1 h4
     have h6 : pv.2 = true := by
      cases e : pv.2 with
      | true => rfl
      | false => have := pvf e; omega
     obtain ⟨n1, n2, n3⟩ := pvt h6
     have hlen : (s.2 ++ [api_Addr_.mk s.1.ffrom pv.1]).length = s.2.length + 1 := by simp
     refine Tot.chk (limB (show (s.2 ++ [api_Addr_.mk s.1.ffrom pv.1]).length ≤ 4000000000 by omega)) (hj4 _ ⟨fun y hy2 => ?_, by simp only; omega, ?_⟩)
     ·rcases List.mem_append.1 hy2 with hy2 | hy2
      ·exact c5 y hy2
      ·rw [List.mem_singleton.1 hy2]
       exact ⟨c1, n1, hfam.trans n3.symm⟩
     ·rw [if_pos h5, List.map_append]
      have : ivP (api_Addr_.mk s.1.ffrom pv.1) = (rk s.1.ffrom, rk b[k].ffrom - 1) := by
       unfold ivP
       simp only
       congr 1
       omega
      rw [List.map_cons, List.map_nil, this]
    ·have h5 : ¬ rk s.1.ffrom < rk b[k].ffrom := fun e => by rw [hm3.2 e] at h4; cases h4
     rw [if_neg h5, List.append_nil]
    ·obtain ⟨d1, d2, d3⟩ := hm4
     rw [← List.append_assoc, ← d3] at e7
     refine Tot.bindOf en (Tot.jnR (fun m : Bool => m = true ↔ rk x.fto ≤ rk b[k].fto) (fun j5 hj5 => Tot.ite (fun h5 => hj5 _ ⟨fun _ => nxf (by simpa using h5), fun _ => rfl⟩) (fun h5 => Tot.bindOf (acmp_eq (nxt (by simpa using h5)).1.1 hs1.2.1.1) (hj5 _ ?_))) (fun m624 hm5 => Tot.ite (fun h5 => Tot.stop ⟨?_, ?_, ?_⟩) (fun h5 => hj _ ?_)))
     ·obtain ⟨n1, n2, n3⟩ := nxt (by simpa using h5)
      rw [decide_eq_true_iff, cmpA_pos n1 hs1.2.1, c2]
      omega
     ·exact d1
     ·have h6 := hm5.1 h5
      rw [if_pos h6, List.append_nil] at e7
      exact e7
     ·show m619.length ≤ acc.length + b.length
      omega
     ·have h6 : ¬ rk x.fto ≤ rk b[k].fto := fun e => by rw [hm5.2 e] at h5; cases h5
      have h7 : nx.2 = true := by
       cases e : nx.2 with
       | true => rfl
       | false => exact (h6 (nxf e)).elim
      obtain ⟨n1, n2, n3⟩ := nxt h7
      rw [if_neg h6] at e7
      refine ⟨⟨⟨n1, c2, ?_, by simp only; omega⟩, d1, by simp only; omega⟩, ?_⟩
      ·show nx.1.fV6 = _
       rw [n3, ← hy.2.2, ← hfam]; exact c3
      ·simp only
       rw [n2]
       exact e7
 ·obtain ⟨⟨⟨c1, c2, c3, c4⟩, c5, c6⟩, c7⟩ := hs
  rw [List.drop_of_length_le (by simp)] at c7
  unfold resource_order_minus_L1
  refine Tot.iteF (by simp) (Tot.last ⟨?_, ?_, c6⟩)
  ·intro y hy
   unfold fin1 at hy
   simp only [if_true] at hy
   rcases List.mem_append.1 hy with hy | hy
   ·exact c5 y hy
   ·rw [List.mem_singleton.1 hy]
    exact ⟨c1, by rw [c2]; exact hx.2.1, by rw [c2]; exact c3⟩
  ·rw [← c7]
   unfold fin1
   simp only [if_true]
   rw [List.map_append]
   unfold cutx ivP
   simp only [List.map_cons, List.map_nil]
   rw [c2]
theorem minus_tot {a b : List api_Addr_} (ha : AVp a) (hka : okI (a.map ivP)) (hb : AVp b) (hkb : okI (b.map ivP)) (hl : a.length ≤ 1000) (hl2 : b.length ≤ 1000000) :
  Tot (resource_order_minus a b) (fun r => AVp r ∧ r.map ivP = minusL (a.map ivP) (b.map ivP) ∧ r.length ≤ a.length * (b.length + 1)) := by
 unfold resource_order_minus
 refine Tot.bindRng a.length (fun k (s : List api_Addr_) => (((k : Nat) : Int), s)) (fun k s => AVp s ∧ s.map ivP = minusL ((a.map ivP).take k) (b.map ivP) ∧ s.length ≤ k * (b.length + 1)) (fun r => AVp r ∧ r.map ivP = minusL (a.map ivP) (b.map ivP) ∧ r.length ≤ a.length * (b.length + 1)) [] rfl ⟨fun x hx => (by cases hx), rfl, Nat.zero_le _⟩ (fun k s hk2 hs => ?_) (fun s hs => ?_) (fun r hr => Tot.some hr)
 ·obtain ⟨s1, s2, s3⟩ := hs
  have hw : w64 ((k : Int) + 1) = ((k + 1 : Nat) : Int) := by rw [w64_id (by omega) (by omega)]; rfl
  have hx := ha _ (List.getElem_mem hk2)
  have hxk : rk a[k].ffrom ≤ rk a[k].fto := hka (ivP a[k]) (List.mem_map_of_mem (List.getElem_mem hk2))
  have hkm : k < (a.map ivP).length := by simpa using hk2
  have hgk : (a.map ivP)[k] = ivP a[k] := by simp
  have hb3 : k * (b.length + 1) ≤ 1000 * (b.length + 1) := Nat.mul_le_mul_right _ (by omega)
  unfold resource_order_minus_L0
  refine Tot.iteT (by simpa using hk2) (Tot.bindIdx k rfl hk2 (Tot.bindT (minus_in hb hkb hl2 hx hxk s1 (show s.length + b.length ≤ 3000000000 by omega)) fun p hp => ?_))
  obtain ⟨p1, p2, p3⟩ := hp
  have p3 : p.2.2.length ≤ s.length + b.length := p3
  have p2 : (fin1 p).map ivP = s.map ivP ++ cutx (rk a[k].fto) (rk a[k].ffrom) (b.map ivP) := p2
  have fin : AVp (fin1 p) ∧ (fin1 p).map ivP = minusL ((a.map ivP).take (k + 1)) (b.map ivP) := by
   refine ⟨p1, ?_⟩
   rw [p2, s2, take_snoc hkm, hgk]
   unfold minusL
   rw [List.flatMap_append]
   simp [ivP]
  refine Tot.jnR (fun m : List api_Addr_ => AVp m ∧ m.map ivP = minusL ((a.map ivP).take (k + 1)) (b.map ivP) ∧ m.length ≤ (k + 1) * (b.length + 1)) (fun j hj => ?_) (fun m hm => Tot.step m (by rw [hw]) hm)
  have hm1 : (k + 1) * (b.length + 1) = k * (b.length + 1) + (b.length + 1) := Nat.succ_mul _ _
  unfold fin1 at fin
  refine Tot.ite (fun h => ?_) (fun h => ?_)
  ·rw [if_pos h] at fin
   exact Tot.chk (limB (by simp only [List.length_append, List.length_cons, List.length_nil]; omega)) (hj _ ⟨fin.1, fin.2, by simp only [List.length_append, List.length_cons, List.length_nil]; omega⟩)
  ·rw [if_neg (by rw [h]; simp)] at fin
   exact hj _ ⟨fin.1, fin.2, by omega⟩
 ·unfold resource_order_minus_L0
  refine Tot.iteF (by simp) (Tot.last ?_)
  rw [List.take_of_length_le (by simp)] at hs
  exact hs
structure Cst2 (x x' : resource_part_int_) : Prop where
 f : 0 ≤ x'.ffrom
 t : x'.fto = x.fto
 le : x'.ffrom ≤ x.fto
theorem gt_I {x y : Int} : 0 < (if x < y then (-1 : Int) else if y < x then 1 else 0) ↔ y < x := by
 split
 ·exact ⟨fun h => by omega, fun h => by omega⟩
 ·split
  ·exact ⟨fun _ => by assumption, fun h => by omega⟩
  ·exact ⟨fun h => by omega, fun h => by omega⟩
theorem le_I {x y : Int} : (if x < y then (-1 : Int) else if y < x then 1 else 0) ≤ 0 ↔ x ≤ y := by
 split
 ·exact ⟨fun h => by omega, fun h => by omega⟩
 ·split
  ·exact ⟨fun h => by omega, fun h => by omega⟩
  ·exact ⟨fun h => by omega, fun h => by omega⟩
theorem minus2_in {b : List resource_part_int_} (hb : SVp b) (hl : b.length ≤ 1000000) {x : resource_part_int_} (hx : okN x.ffrom x.fto) {acc : List resource_part_int_} (ha : SVp acc) (hal : acc.length + b.length ≤ 3000000000) :
  Tot (loop (resource_order_minus_2_L1 b) ((0 : Int), x, acc)) (fun p => SVp (fin1 p) ∧ (fin1 p).map ivI = acc.map ivI ++ cutx x.fto.toNat x.ffrom.toNat (b.map ivI) ∧ p.2.2.length ≤ acc.length + b.length) := by
 obtain ⟨x0, x1, x2⟩ := hx
 refine Tot.rng b.length (fun k (s : resource_part_int_ × List resource_part_int_) => (((k : Nat) : Int), s.1, s.2)) (fun k s => (Cst2 x s.1 ∧ SVp s.2 ∧ s.2.length ≤ acc.length + k) ∧ s.2.map ivI ++ cutx x.fto.toNat s.1.ffrom.toNat ((b.map ivI).drop k) = acc.map ivI ++ cutx x.fto.toNat x.ffrom.toNat (b.map ivI)) _ (x, acc) rfl ⟨⟨⟨x0, rfl, x1⟩, ha, Nat.le_refl _⟩, rfl⟩ (fun k s hk2 hs => ?_) (fun s hs => ?_)
 ·obtain ⟨⟨⟨c1, c2, c4⟩, c5, c6⟩, c7⟩ := hs
  have hw : w64 ((k : Int) + 1) = ((k + 1 : Nat) : Int) := by rw [w64_id (by omega) (by omega)]; rfl
  obtain ⟨y0, y1, y2⟩ := hb _ (List.getElem_mem hk2)
  have hkm : k < (b.map ivI).length := by simpa using hk2
  rw [List.drop_eq_getElem_cons hkm] at c7
  have hgk : (b.map ivI)[k] = (b[k].ffrom.toNat, b[k].fto.toNat) := by simp [ivI]
  rw [hgk] at c7
  unfold resource_order_minus_2_L1
  refine Tot.iteT (by simpa using hk2) (Tot.jnR (fun m : resource_part_int_ × List resource_part_int_ => (Cst2 x m.1 ∧ SVp m.2 ∧ m.2.length ≤ acc.length + (k + 1)) ∧ m.2.map ivI ++ cutx x.fto.toNat m.1.ffrom.toNat ((b.map ivI).drop (k + 1)) = acc.map ivI ++ cutx x.fto.toNat x.ffrom.toNat (b.map ivI)) (fun j hj => ?_) (fun m hm => Tot.step m (by rw [hw]) hm))
  refine Tot.bindIdx k rfl hk2 (Tot.jnR (fun m : Bool => m = true ↔ (b[k].fto < s.1.ffrom ∨ x.fto < b[k].ffrom)) (fun j2 hj2 => ?_) (fun m hm => Tot.ite (fun h => hj _ ⟨⟨⟨c1, c2, c4⟩, c5, by simp only; omega⟩, ?_⟩) (fun h => ?_)))
  ·refine Tot.bindOf cmp_I (Tot.ite (fun h => hj2 _ ⟨fun _ => .inl (lt_I.1 (of_decide_eq_true h)), fun _ => rfl⟩) (fun h => Tot.bindOf cmp_I (hj2 _ ?_)))
   have h := of_decide_eq_false h
   rw [lt_I] at h
   rw [decide_eq_true_iff, gt_I, c2]
   exact ⟨.inr, fun e => e.resolve_left h⟩
  ·have h := hm.1 h
   rw [← c7]
   congr 1
   exact (if_pos (by simp only; omega)).symm
  ·have hno : ¬ (b[k].fto < s.1.ffrom ∨ x.fto < b[k].ffrom) := fun e => by rw [hm.2 e] at h; cases h
   have e7 : s.2.map ivI ++ ((if s.1.ffrom.toNat < b[k].ffrom.toNat then [(s.1.ffrom.toNat, b[k].ffrom.toNat - 1)] else []) ++ (if x.fto.toNat ≤ b[k].fto.toNat then [] else cutx x.fto.toNat (b[k].fto.toNat + 1) ((b.map ivI).drop (k + 1)))) = acc.map ivI ++ cutx x.fto.toNat x.ffrom.toNat (b.map ivI) := by
    rw [← c7]
    congr 1
    exact (if_neg (by simp only; omega)).symm
   refine Tot.bindOf (show resource_numbers_2 b[k].ffrom = some (b[k].ffrom - 1, decide (0 < b[k].ffrom)) from by unfold resource_numbers_2; rw [w64_id (by omega) (by omega)]) (Tot.jnR (fun m : Bool => m = true ↔ s.1.ffrom < b[k].ffrom) (fun j3 hj3 => Tot.ite (fun h3 => Tot.bindOf cmp_I (hj3 _ ?_)) (fun h3 => hj3 _ ?_)) (fun m615 hm3 => ?_))
   ·rw [decide_eq_true_iff, le_I]
    simp only
    omega
   ·have := of_decide_eq_false h3
    exact ⟨fun e => (by cases e), fun e => by omega⟩
   ·refine Tot.jnR (fun m : List resource_part_int_ => SVp m ∧ m.length ≤ acc.length + k + 1 ∧ m.map ivI = s.2.map ivI ++ (if s.1.ffrom.toNat < b[k].ffrom.toNat then [(s.1.ffrom.toNat, b[k].ffrom.toNat - 1)] else [])) (fun j4 hj4 => Tot.ite (fun h4 => ?_) (fun h4 => hj4 _ ⟨c5, by simp only; omega, ?_⟩)) (fun m619 hm4 => ?_)
    ·have h5 := hm3.1 h4
     have hlen : (s.2 ++ [resource_part_int_.mk s.1.ffrom (b[k].ffrom - 1)]).length = s.2.length + 1 := by simp
     refine Tot.chk (limB (show (s.2 ++ [resource_part_int_.mk s.1.ffrom (b[k].ffrom - 1)]).length ≤ 4000000000 by omega)) (hj4 _ ⟨fun y hy2 => ?_, by simp only; omega, ?_⟩)
     ·rcases List.mem_append.1 hy2 with hy2 | hy2
      ·exact c5 y hy2
      ·rw [List.mem_singleton.1 hy2]
       exact ⟨c1, by simp only; omega, by simp only; omega⟩
     ·rw [if_pos (by omega), List.map_append]
      have : ivI (resource_part_int_.mk s.1.ffrom (b[k].ffrom - 1)) = (s.1.ffrom.toNat, b[k].ffrom.toNat - 1) := by
       unfold ivI
       simp only
       congr 1
       omega
      rw [List.map_cons, List.map_nil, this]
    ·have h5 : ¬ s.1.ffrom < b[k].ffrom := fun e => by rw [hm3.2 e] at h4; cases h4
     rw [if_neg (by omega), List.append_nil]
    ·obtain ⟨d1, d2, d3⟩ := hm4
     rw [← List.append_assoc, ← d3] at e7
     refine Tot.bindOf (show resource_numbers_1 b[k].fto = some (b[k].fto + 1, decide (b[k].fto < 4294967295)) from by unfold resource_numbers_1; rw [w64_id (by omega) (by omega)]) (Tot.jnR (fun m : Bool => m = true ↔ x.fto ≤ b[k].fto) (fun j5 hj5 => Tot.ite (fun h5 => hj5 _ ⟨fun _ => ?_, fun _ => rfl⟩) (fun h5 => Tot.bindOf cmp_I (hj5 _ ?_))) (fun m624 hm5 => Tot.ite (fun h5 => Tot.stop ⟨?_, ?_, ?_⟩) (fun h5 => hj _ ?_)))
     ·simp only [Bool.not_eq_true', decide_eq_false_iff_not] at h5
      omega
     ·rw [decide_eq_true_iff, gt_I, c2]
      simp only
      omega
     ·exact d1
     ·have h6 := hm5.1 h5
      rw [if_pos (by omega), List.append_nil] at e7
      exact e7
     ·show m619.length ≤ acc.length + b.length
      omega
     ·have h6 : ¬ x.fto ≤ b[k].fto := fun e => by rw [hm5.2 e] at h5; cases h5
      rw [if_neg (by omega)] at e7
      refine ⟨⟨⟨by simp only; omega, c2, by simp only; omega⟩, d1, by simp only; omega⟩, ?_⟩
      simp only
      have : (b[k].fto + 1).toNat = b[k].fto.toNat + 1 := by omega
      rw [this]
      exact e7
 ·obtain ⟨⟨⟨c1, c2, c4⟩, c5, c6⟩, c7⟩ := hs
  rw [List.drop_of_length_le (by simp)] at c7
  unfold resource_order_minus_2_L1
  refine Tot.iteF (by simp) (Tot.last ⟨?_, ?_, c6⟩)
  ·intro y hy
   unfold fin1 at hy
   simp only [if_true] at hy
   rcases List.mem_append.1 hy with hy | hy
   ·exact c5 y hy
   ·rw [List.mem_singleton.1 hy]
    exact ⟨c1, by omega, by omega⟩
  ·rw [← c7]
   unfold fin1
   simp only [if_true]
   rw [List.map_append]
   unfold cutx ivI
   simp only [List.map_cons, List.map_nil]
   rw [c2]
theorem minus2_tot {a b : List resource_part_int_} (ha : SVp a) (hb : SVp b) (hl : a.length ≤ 1000) (hl2 : b.length ≤ 1000000) :
  Tot (resource_order_minus_2 a b) (fun r => SVp r ∧ r.map ivI = minusL (a.map ivI) (b.map ivI) ∧ r.length ≤ a.length * (b.length + 1)) := by
 unfold resource_order_minus_2
 refine Tot.bindRng a.length (fun k (s : List resource_part_int_) => (((k : Nat) : Int), s)) (fun k s => SVp s ∧ s.map ivI = minusL ((a.map ivI).take k) (b.map ivI) ∧ s.length ≤ k * (b.length + 1)) (fun r => SVp r ∧ r.map ivI = minusL (a.map ivI) (b.map ivI) ∧ r.length ≤ a.length * (b.length + 1)) [] rfl ⟨fun x hx => (by cases hx), rfl, Nat.zero_le _⟩ (fun k s hk2 hs => ?_) (fun s hs => ?_) (fun r hr => Tot.some hr)
 ·obtain ⟨s1, s2, s3⟩ := hs
  have hw : w64 ((k : Int) + 1) = ((k + 1 : Nat) : Int) := by rw [w64_id (by omega) (by omega)]; rfl
  have hx := ha _ (List.getElem_mem hk2)
  have hkm : k < (a.map ivI).length := by simpa using hk2
  have hgk : (a.map ivI)[k] = ivI a[k] := by simp
  have hb3 : k * (b.length + 1) ≤ 1000 * (b.length + 1) := Nat.mul_le_mul_right _ (by omega)
  unfold resource_order_minus_2_L0
  refine Tot.iteT (by simpa using hk2) (Tot.bindIdx k rfl hk2 (Tot.bindT (minus2_in hb hl2 hx s1 (show s.length + b.length ≤ 3000000000 by omega)) fun p hp => ?_))
  obtain ⟨p1, p2, p3⟩ := hp
  have p3 : p.2.2.length ≤ s.length + b.length := p3
  have p2 : (fin1 p).map ivI = s.map ivI ++ cutx a[k].fto.toNat a[k].ffrom.toNat (b.map ivI) := p2
  have fin : SVp (fin1 p) ∧ (fin1 p).map ivI = minusL ((a.map ivI).take (k + 1)) (b.map ivI) := by
   refine ⟨p1, ?_⟩
   rw [p2, s2, take_snoc hkm, hgk]
   unfold minusL
   rw [List.flatMap_append]
   simp [ivI]
  refine Tot.jnR (fun m : List resource_part_int_ => SVp m ∧ m.map ivI = minusL ((a.map ivI).take (k + 1)) (b.map ivI) ∧ m.length ≤ (k + 1) * (b.length + 1)) (fun j hj => ?_) (fun m hm => Tot.step m (by rw [hw]) hm)
  have hm1 : (k + 1) * (b.length + 1) = k * (b.length + 1) + (b.length + 1) := Nat.succ_mul _ _
  unfold fin1 at fin
  refine Tot.ite (fun h => ?_) (fun h => ?_)
  ·rw [if_pos h] at fin
   exact Tot.chk (limB (by simp only [List.length_append, List.length_cons, List.length_nil]; omega)) (hj _ ⟨fin.1, fin.2, by simp only [List.length_append, List.length_cons, List.length_nil]; omega⟩)
  ·rw [if_neg (by rw [h]; simp)] at fin
   exact hj _ ⟨fin.1, fin.2, by omega⟩
 ·unfold resource_order_minus_2_L0
  refine Tot.iteF (by simp) (Tot.last ?_)
  rw [List.take_of_length_le (by simp)] at hs
  exact hs
theorem setminus_tot {a b : resource_set} (ha : AVp a.faddrs) (va : VL (a.faddrs.map ivP)) (sa : SVp a.fasns) (hb : AVp b.faddrs) (vb : VL (b.faddrs.map ivP)) (sb : SVp b.fasns) (l1 : a.faddrs.length ≤ 1000) (l2 : b.faddrs.length ≤ 1000000) (l3 : a.fasns.length ≤ 1000) (l4 : b.fasns.length ≤ 1000000) :
  Tot (resource_set_minus a b) (fun r => (AVp r.faddrs ∧ r.faddrs.map ivP = minusL (a.faddrs.map ivP) (b.faddrs.map ivP) ∧ r.faddrs.length ≤ a.faddrs.length * (b.faddrs.length + 1)) ∧ (SVp r.fasns ∧ r.fasns.map ivI = minusL (a.fasns.map ivI) (b.fasns.map ivI) ∧ r.fasns.length ≤ a.fasns.length * (b.fasns.length + 1))) := by
 unfold resource_set_minus
 exact Tot.bindT (minus_tot ha va.1 hb vb.1 l1 l2) fun r hr => Tot.bindT (minus2_tot sa sb l3 l4) fun s hs => Tot.some ⟨hr, hs⟩
def cA (r : api_Resources) (n : Nat) : Prop := inI n (r.fAddrs.map ivA)
def cS (r : api_Resources) (n : Nat) : Prop := inI n (r.fASNs.map ivS)
structure SetIs (A : List api_Range) (S : List api_Span) (p q : Nat → Prop) : Prop where
 av : AVr A
 va : VL (A.map ivA)
 ia : ∀ n, inI n (A.map ivA) ↔ p n
 sv : SVr S
 vs : VL (S.map ivS)
 is : ∀ n, inI n (S.map ivS) ↔ q n
structure Is (r : api_Resources) (p q : Nat → Prop) (n m : Nat) : Prop where
 v : VRes r
 a : ∀ n, cA r n ↔ p n
 s : ∀ n, cS r n ↔ q n
 la : r.fAddrs.length ≤ n
 ls : r.fASNs.length ≤ m
end Go.Proofs.YtgfoabcickjphaaDoor
