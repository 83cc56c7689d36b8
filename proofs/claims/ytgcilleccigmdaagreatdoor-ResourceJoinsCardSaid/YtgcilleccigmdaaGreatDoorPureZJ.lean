/- Union, intersection, difference and cover: code and document agree, in plain Lean. -/
import Derived.Test.YtgcilleccigmdaaGreatDoorPureSF
import Derived.Test.YtgcilleccigmdaaGreatDoorPureZC
import Derived.Test.YtgcilleccigmdaaGreatDoorPureSV
namespace Go.Proofs.YtgcilleccigmdaaGreatDoor
open Go Go.Vc
theorem great_tot {a b : api_Addr} (ha : aV a) (hb : aV b) : ∃ x, exchangepointref21_greater a b = some x ∧ (x = a ∨ x = b) ∧ rk x = max (rk a) (rk b) := by
 unfold exchangepointref21_greater
 suffices h : Tot ((exchangepointref01_Cmp a b).bind fun r1 => if (decide (r1 < (0 : Int))) = true then some b else some a) (fun x => (x = a ∨ x = b) ∧ rk x = max (rk a) (rk b)) from h
 refine Tot.bindOf (racmp_eq ha.1 hb.1) (Tot.ite (fun h => Tot.some ⟨.inr rfl, ?_⟩) (fun h => Tot.some ⟨.inl rfl, ?_⟩))
 ·have := (cmpA_lt ha hb).1 (of_decide_eq_true h); omega
 ·have h := of_decide_eq_false h
  rw [cmpA_lt ha hb] at h; omega
theorem less_tot {a b : api_Addr} (ha : aV a) (hb : aV b) : ∃ x, exchangepointref21_lesser a b = some x ∧ (x = a ∨ x = b) ∧ rk x = min (rk a) (rk b) := by
 unfold exchangepointref21_lesser
 suffices h : Tot ((exchangepointref01_Cmp a b).bind fun r1 => if (decide (r1 < (0 : Int))) = true then some a else some b) (fun x => (x = a ∨ x = b) ∧ rk x = min (rk a) (rk b)) from h
 refine Tot.bindOf (racmp_eq ha.1 hb.1) (Tot.ite (fun h => Tot.some ⟨.inl rfl, ?_⟩) (fun h => Tot.some ⟨.inr rfl, ?_⟩))
 ·have := (cmpA_lt ha hb).1 (of_decide_eq_true h); omega
 ·have h := of_decide_eq_false h
  rw [cmpA_lt ha hb] at h; omega
theorem cut1_snoc (x y : Iv) : ∀ l : List Iv, cut1 x (l ++ [y]) = cut1 x l ++ (if max x.1 y.1 ≤ min x.2 y.2 then [(max x.1 y.1, min x.2 y.2)] else [])
 | [] => by simp [cut1]
 | z :: l => by
  rw [List.cons_append]
  unfold cut1
  rw [cut1_snoc x y l, List.append_assoc]
theorem cut1_len (x : Iv) : ∀ l : List Iv, (cut1 x l).length ≤ l.length
 | [] => Nat.le_refl _
 | z :: l => by
  have := cut1_len x l
  unfold cut1
  rw [List.length_append, List.length_cons]
  split
  ·simp only [List.length_cons, List.length_nil]; omega
  ·simp only [List.length_nil]; omega
theorem cuts_snoc (l b : List Iv) (x : Iv) : cutsL (l ++ [x]) b = cutsL l b ++ cut1 x b := by
 unfold cutsL
 rw [List.flatMap_append]
 simp
theorem rcut_in {a1 : api_Resources} (hb : AVr a1.fAddrs) (hl : a1.fAddrs.length ≤ 1000000) {x : api_Range} (hx : aV x.fFrom ∧ aV x.fTo ∧ x.fFrom.fV6 = x.fTo.fV6) {acc : List api_Range} (ha : AVr acc) (hal : acc.length + a1.fAddrs.length ≤ 3000000000) :
  Tot (loop (exchangepointref21_Intersect_L1 a1 x) ((0 : Int), acc)) (fun o => AVr o ∧ o.map ivA = acc.map ivA ++ cut1 (ivA x) (a1.fAddrs.map ivA)) := by
 refine Tot.rng a1.fAddrs.length (fun k (s : List api_Range) => (((k : Nat) : Int), s)) (fun k s => AVr s ∧ s.map ivA = acc.map ivA ++ cut1 (ivA x) ((a1.fAddrs.map ivA).take k)) _ acc rfl ⟨ha, by simp [cut1]⟩ (fun k s hk hs => ?_) (fun s hs => ?_)
 ·obtain ⟨s1, s2⟩ := hs
  have hw : w64 ((k : Int) + 1) = ((k + 1 : Nat) : Int) := by rw [w64_id (by omega) (by omega)]; rfl
  have hy := hb _ (List.getElem_mem hk)
  have hkm : k < (a1.fAddrs.map ivA).length := by simpa using hk
  have hgk : (a1.fAddrs.map ivA)[k] = ivA a1.fAddrs[k] := by simp
  have hsl : s.length ≤ acc.length + k := by
   have h1 := congrArg List.length s2
   rw [List.length_map, List.length_append, List.length_map] at h1
   have h2 := cut1_len (ivA x) ((a1.fAddrs.map ivA).take k)
   rw [List.length_take] at h2
   omega
  obtain ⟨f, ef, f1, f2⟩ := great_tot hx.1 hy.1
  obtain ⟨t, et, t1, t2⟩ := less_tot hx.2.1 hy.2.1
  have fv : aV f := by rcases f1 with rfl | rfl; exact hx.1; exact hy.1
  have tv : aV t := by rcases t1 with rfl | rfl; exact hx.2.1; exact hy.2.1
  unfold exchangepointref21_Intersect_L1
  refine Tot.iteT (by simpa using hk) (Tot.bindIdx k rfl hk (Tot.bindOf ef (Tot.bindOf et ?_)))
  have fam : rk f ≤ rk t → x.fFrom.fV6 = a1.fAddrs[k].fFrom.fV6 := fun h => by
   refine fam_meet (x := api_Addr_.mk x.fFrom x.fTo) (y := api_Addr_.mk a1.fAddrs[k].fFrom a1.fAddrs[k].fTo) hx hy ?_ ?_
   ·simp only; omega
   ·simp only; omega
  refine Tot.jnR (fun m : Bool => m = true ↔ rk f ≤ rk t) (fun j hj => Tot.ite (fun h => Tot.bindOf (racmp_eq fv.1 tv.1) (hj _ ?_)) (fun h => hj _ ?_)) (fun m hm => ?_)
  ·rw [decide_eq_true_iff, cmpA_le fv tv]
  ·exact ⟨fun e => (by cases e), fun e => by rw [fam e] at h; simp at h⟩
  ·have key : acc.map ivA ++ cut1 (ivA x) ((a1.fAddrs.map ivA).take (k + 1)) = s.map ivA ++ (if max (ivA x).1 (ivA a1.fAddrs[k]).1 ≤ min (ivA x).2 (ivA a1.fAddrs[k]).2 then [(max (ivA x).1 (ivA a1.fAddrs[k]).1, min (ivA x).2 (ivA a1.fAddrs[k]).2)] else []) := by
    rw [take_snoc hkm, hgk, cut1_snoc, ← List.append_assoc, ← s2]
   refine Tot.jnR (fun o : List api_Range => AVr o ∧ o.map ivA = s.map ivA ++ (if max (ivA x).1 (ivA a1.fAddrs[k]).1 ≤ min (ivA x).2 (ivA a1.fAddrs[k]).2 then [(max (ivA x).1 (ivA a1.fAddrs[k]).1, min (ivA x).2 (ivA a1.fAddrs[k]).2)] else [])) (fun j hj => Tot.ite (fun h => ?_) (fun h => hj _ ⟨s1, ?_⟩)) (fun o ho => Tot.step o (by rw [hw]) ⟨ho.1, by rw [key]; exact ho.2⟩)
   ·have h := hm.1 h
    have hlen : (s ++ [api_Range.mk f t]).length = s.length + 1 := by simp
    refine Tot.chk (limB (show (s ++ [api_Range.mk f t]).length ≤ 4000000000 by omega)) (hj _ ⟨fun z hz => ?_, ?_⟩)
    ·rcases List.mem_append.1 hz with e | e
     ·exact s1 z e
     ·rw [List.mem_singleton.1 e]
      refine ⟨fv, tv, ?_⟩
      have hf := fam h
      simp only
      rcases f1 with rfl | rfl <;> rcases t1 with rfl | rfl
      ·exact hx.2.2
      ·rw [hf]; exact hy.2.2
      ·rw [← hf]; exact hx.2.2
      ·exact hy.2.2
    ·rw [List.map_append]
     have e1 : (ivA x).1 = rk x.fFrom := rfl
     have e2 : (ivA x).2 = rk x.fTo := rfl
     have e3 : (ivA a1.fAddrs[k]).1 = rk a1.fAddrs[k].fFrom := rfl
     have e4 : (ivA a1.fAddrs[k]).2 = rk a1.fAddrs[k].fTo := rfl
     rw [e1, e2, e3, e4, ← f2, ← t2, if_pos h]
     rfl
   ·have h : ¬ rk f ≤ rk t := fun e => by rw [hm.2 e] at h; cases h
    rw [f2, t2] at h
    exact (by rw [if_neg (show ¬ max (ivA x).1 (ivA a1.fAddrs[k]).1 ≤ min (ivA x).2 (ivA a1.fAddrs[k]).2 from h), List.append_nil])
 ·unfold exchangepointref21_Intersect_L1
  refine Tot.iteF (by simp) (Tot.last ?_)
  rw [List.take_of_length_le (by simp)] at hs
  exact hs
theorem rcut_tot {a0 a1 : api_Resources} (ha : AVr a0.fAddrs) (hb : AVr a1.fAddrs) (hl0 : a0.fAddrs.length ≤ 1000) (hl : a1.fAddrs.length ≤ 1000) :
  Tot (loop (exchangepointref21_Intersect_L0 a0 a1) ((0 : Int), ([] : List api_Range))) (fun o => AVr o ∧ o.map ivA = cutsL (a0.fAddrs.map ivA) (a1.fAddrs.map ivA)) := by
 refine Tot.rng a0.fAddrs.length (fun k (s : List api_Range) => (((k : Nat) : Int), s)) (fun k s => AVr s ∧ s.map ivA = cutsL ((a0.fAddrs.map ivA).take k) (a1.fAddrs.map ivA)) _ [] rfl ⟨fun x hx => (by cases hx), rfl⟩ (fun k s hk hs => ?_) (fun s hs => ?_)
 ·obtain ⟨s1, s2⟩ := hs
  have hw : w64 ((k : Int) + 1) = ((k + 1 : Nat) : Int) := by rw [w64_id (by omega) (by omega)]; rfl
  have hx := ha _ (List.getElem_mem hk)
  have hkm : k < (a0.fAddrs.map ivA).length := by simpa using hk
  have hgk : (a0.fAddrs.map ivA)[k] = ivA a0.fAddrs[k] := by simp
  have hsl : s.length ≤ 1000000 := by
   have h1 := congrArg List.length s2
   rw [List.length_map] at h1
   rw [h1]
   have : ∀ l : List Iv, l.length ≤ 1000 → (cutsL l (a1.fAddrs.map ivA)).length ≤ l.length * 1000 := fun l => by
    induction l with
    | nil => intro _; simp [cutsL]
    | cons z l ih =>
     intro h
     simp only [List.length_cons] at h
     have e : cutsL (z :: l) (a1.fAddrs.map ivA) = cut1 z (a1.fAddrs.map ivA) ++ cutsL l (a1.fAddrs.map ivA) := by unfold cutsL; rw [List.flatMap_cons]
     have := ih (by omega)
     have h5 := cut1_len z (a1.fAddrs.map ivA)
     rw [List.length_map] at h5
     rw [e, List.length_append, List.length_cons]
     omega
   have h6 := this ((a0.fAddrs.map ivA).take k) (by rw [List.length_take, List.length_map]; omega)
   rw [List.length_take, List.length_map] at h6
   have h7 : min k a0.fAddrs.length ≤ 1000 := by omega
   exact Nat.le_trans h6 (Nat.mul_le_mul_right 1000 h7)
  unfold exchangepointref21_Intersect_L0
  refine Tot.iteT (by simpa using hk) (Tot.bindIdx k rfl hk (Tot.bindT (rcut_in hb (by omega) hx s1 (show s.length + a1.fAddrs.length ≤ 3000000000 by omega)) fun o ho => Tot.step o (by rw [hw]) ⟨ho.1, ?_⟩))
  rw [take_snoc hkm, hgk, cuts_snoc, ← s2]
  exact ho.2
 ·unfold exchangepointref21_Intersect_L0
  refine Tot.iteF (by simp) (Tot.last ?_)
  rw [List.take_of_length_le (by simp)] at hs
  exact hs
def flo (v : Bool) : Nat := if v = true then 4294967297 else 0
def fhi (v : Bool) : Nat := if v = true then 4294967297 + (2 ^ 128 - 1) else 4294967295
theorem fam_in {a : api_Addr} (ha : aV a) : flo a.fV6 ≤ rk a ∧ rk a ≤ fhi a.fV6 := by
 have h := aV_lt ha
 unfold flo fhi rk
 cases c : a.fV6
 ·rw [c] at h
  have e : (2 : Nat) ^ wid false = 4294967296 := by decide
  simp only [Bool.false_eq_true, if_false]
  omega
 ·rw [c] at h
  have e : (2 : Nat) ^ wid true = 340282366920938463463374607431768211456 := by decide
  have e2 : (2 : Nat) ^ 128 = 340282366920938463463374607431768211456 := by decide
  simp only [if_true]
  omega
theorem first_rk (v : Bool) : rk (api_Addr.mk v 0 0) = flo v := by
 have : nA (api_Addr.mk v 0 0) = 0 := p0_n v
 unfold rk flo
 rw [this]
theorem last_rk (v : Bool) : rk (LastF (P0 v)) = fhi v := by
 have e : nA (P0 v).fAddr = 0 := p0_n v
 have e2 : fr (P0 v) = wid v := by
  have h1 := fr_eq (p0_V v)
  have e4 : (P0 v).fLen = 0 := rfl
  have e5 : (P0 v).fAddr.fV6 = v := rfl
  rw [e4, e5] at h1
  omega
 have h := last_num (p0_V v)
 rw [e, e2] at h
 have hv : (LastF (P0 v)).fV6 = v := by unfold LastF; rw [mkA_v6]; rfl
 unfold rk fhi
 rw [hv, h]
 cases v
 ·have e3 : (2 : Nat) ^ wid false = 4294967296 := by decide
  simp only [Bool.false_eq_true, if_false]
  omega
 ·have e3 : (2 : Nat) ^ wid true = 2 ^ 128 := by decide
  simp only [if_true]
  rw [e3]
theorem rbefore_eq {a : api_Addr} (ha : aV a) (h : nA a ≠ 0) : exchangepointref21_before a = some (PrevF a).1 := by
 have e := before_eq ha
 unfold resource_before at e
 unfold exchangepointref21_before
 have hz : ((a.fHi == (0 : Int)) && (a.fLo == (0 : Int))) = false := by
  cases c : ((a.fHi == (0 : Int)) && (a.fLo == (0 : Int))) with
  | false => rfl
  | true =>
   simp only [Bool.and_eq_true, beq_iff_eq] at c
   exact (h (by unfold nA; rw [c.1, c.2]; rfl)).elim
 rw [hz, if_neg (by simp)] at e
 unfold jn at e ⊢
 by_cases c : (a.fLo == 0) = true
 ·simp only [c, if_true] at e ⊢
  rw [← Option.some.inj e]
 ·simp only [c, if_false, Bool.false_eq_true] at e ⊢
  rw [← Option.some.inj e]
structure Out (v : Bool) (bs o : List Iv) (F : Nat) : Prop where
 vl : VL o
 is : ∀ n, inI n o ↔ (flo v ≤ n ∧ n < F) ∧ ¬ inI n bs
 gap : ∀ z ∈ o, z.2 + 1 < F
 bd : ∀ z ∈ o, flo v ≤ z.1 ∧ z.2 ≤ fhi v
 past : ∀ n, flo v ≤ n → n ≤ fhi v → inI n bs → n < F
theorem out_start (v : Bool) : Out v [] [] (flo v) :=
 ⟨vl_nil, fun n => ⟨fun e => (inI_nil e).elim, fun e => by omega⟩, fun z hz => (by cases hz), fun z hz => (by cases hz), fun n _ _ e => (inI_nil e).elim⟩
theorem out_skip {v : Bool} {bs o : List Iv} {F : Nat} (h : Out v bs o F) (hF : F ≤ fhi v + 1) {y : Iv} (hy : ∀ n, flo v ≤ n → n ≤ fhi v → ¬ (y.1 ≤ n ∧ n ≤ y.2)) : Out v (bs ++ [y]) o F := by
 refine ⟨h.vl, fun n => ?_, h.gap, h.bd, fun n h1 h2 h3 => ?_⟩
 ·rw [h.is, inI_app, inI_one]
  constructor
  ·rintro ⟨e1, e2⟩
   exact ⟨e1, fun k => k.elim e2 fun k => hy n e1.1 (by omega) k⟩
  ·rintro ⟨e1, e2⟩
   exact ⟨e1, fun k => e2 (.inl k)⟩
 ·rw [inI_app, inI_one] at h3
  exact h3.elim (h.past n h1 h2) fun k => (hy n h1 h2 k).elim
theorem out_next {v : Bool} {bs o : List Iv} {F : Nat} (h : Out v bs o F) {y : Iv} (hy : y.1 ≤ y.2) (h1 : F ≤ y.1) (h2 : flo v ≤ y.1) (h3 : y.2 ≤ fhi v) (hlo : flo v ≤ F) : Out v (bs ++ [y]) (o ++ if F < y.1 then [(F, y.1 - 1)] else []) (y.2 + 1) := by
 have P : VL (if F < y.1 then [(F, y.1 - 1)] else []) ∧ (∀ n, inI n (if F < y.1 then [(F, y.1 - 1)] else []) ↔ F ≤ n ∧ n < y.1) ∧ (∀ z ∈ (if F < y.1 then [(F, y.1 - 1)] else []), z.1 = F ∧ z.2 + 1 = y.1) := by
  by_cases d : F < y.1
  ·rw [if_pos d]
   refine ⟨vl_one (by simp only; omega), fun n => ?_, fun z hz => ?_⟩
   ·rw [inI_one]; simp only; omega
   ·rw [List.mem_singleton.1 hz]
    refine ⟨rfl, ?_⟩
    show y.1 - 1 + 1 = y.1
    omega
  ·rw [if_neg d]
   exact ⟨vl_nil, fun n => ⟨fun e => (inI_nil e).elim, fun e => by omega⟩, fun z hz => (by cases hz)⟩
 generalize (if F < y.1 then [(F, y.1 - 1)] else []) = p at P
 obtain ⟨p1, p2, p3⟩ := P
 refine ⟨vl_app h.vl p1 fun a ha b hb => ?_, fun n => ?_, fun z hz => ?_, fun z hz => ?_, fun n k1 k2 k3 => ?_⟩
 ·have := h.gap a ha
  have := (p3 b hb).1
  omega
 ·rw [inI_app, h.is, p2, inI_app, inI_one]
  constructor
  ·rintro (⟨e1, e2⟩ | e)
   ·exact ⟨by omega, fun k => k.elim e2 fun k => by omega⟩
   ·refine ⟨by omega, fun k => k.elim (fun k => ?_) fun k => by omega⟩
    have := h.past n (by omega) (by omega) k
    omega
  ·rintro ⟨e1, e2⟩
   rcases Nat.lt_or_ge n F with g | g
   ·exact .inl ⟨⟨e1.1, g⟩, fun k => e2 (.inl k)⟩
   ·right
    refine ⟨g, ?_⟩
    rcases Nat.lt_or_ge n y.1 with g2 | g2
    ·exact g2
    ·exact (e2 (.inr ⟨g2, by omega⟩)).elim
 ·rcases List.mem_append.1 hz with hz | hz
  ·have := h.gap z hz; omega
  ·have := (p3 z hz).2; omega
 ·rcases List.mem_append.1 hz with hz | hz
  ·exact h.bd z hz
  ·have := p3 z hz; omega
 ·rw [inI_app, inI_one] at k3
  exact k3.elim (fun k => by have := h.past n k1 k2 k; omega) fun k => by omega
theorem out_in {b : List api_Range} (hb : AVr b) (hv : VL (b.map ivA)) (hl : b.length ≤ 1000) (v : Bool) {acc : List api_Range} (ha : AVr acc) (hal : acc.length ≤ 2000) :
  Tot (loop (exchangepointref21_outside_L1 b v) (true, (0 : Int), api_Addr.mk v 0 0, acc)) (fun p => ∃ (o : List api_Range) (F : Nat), p.2.2 = acc ++ o ∧ AVr o ∧ Out v (b.map ivA) (o.map ivA) F ∧ o.length ≤ b.length ∧ (p.1 = true → aV p.2.1 ∧ p.2.1.fV6 = v ∧ rk p.2.1 = F) ∧ (p.1 = false → F = fhi v + 1)) := by
 have hz : aV (api_Addr.mk v 0 0) := (p0_V v).addr
 refine Tot.rng b.length (fun k (s : Bool × api_Addr × List api_Range) => (s.1, ((k : Nat) : Int), s.2.1, s.2.2)) (fun k s => ∃ (o : List api_Range) (F : Nat), s.2.2 = acc ++ o ∧ AVr o ∧ Out v ((b.map ivA).take k) (o.map ivA) F ∧ o.length ≤ k ∧ (s.1 = true → aV s.2.1 ∧ s.2.1.fV6 = v ∧ rk s.2.1 = F) ∧ (s.1 = false → F = fhi v + 1) ∧ (flo v ≤ F ∧ F ≤ fhi v + 1) ∧ ∀ j (hj : j < b.length), k ≤ j → b[j].fFrom.fV6 = v → F ≤ rk b[j].fFrom) _ (true, api_Addr.mk v 0 0, acc) rfl ⟨[], flo v, by simp, fun x hx => (by cases hx), by simpa using out_start v, Nat.le_refl _, fun _ => ⟨hz, rfl, first_rk v⟩, fun e => (by cases e), ⟨Nat.le_refl _, by unfold flo fhi; split <;> omega⟩, fun j hj _ e => ?_⟩ (fun k s hk hs => ?_) (fun s hs => ?_)
 ·have := (fam_in (hb _ (List.getElem_mem hj)).1).1
  rw [e] at this
  exact this
 ·obtain ⟨o, F, s1, s2, s3, s4, s5, s6, s7, s8⟩ := hs
  have hw : w64 ((k : Int) + 1) = ((k + 1 : Nat) : Int) := by rw [w64_id (by omega) (by omega)]; rfl
  have hy := hb _ (List.getElem_mem hk)
  have hkm : k < (b.map ivA).length := by simpa using hk
  have hgk : (b.map ivA)[k] = ivA b[k] := by simp
  have hyk : rk b[k].fFrom ≤ rk b[k].fTo := hv.1 (ivA b[k]) (List.mem_map_of_mem (List.getElem_mem hk))
  have tk : (b.map ivA).take (k + 1) = (b.map ivA).take k ++ [ivA b[k]] := by rw [take_snoc hkm, hgk]
  have later : ∀ j (hj : j < b.length), k + 1 ≤ j → rk b[k].fTo + 1 < rk b[j].fFrom := fun j hj h => by
   have := List.pairwise_iff_getElem.1 hv.2 k j (by simpa using hk) (by simpa using hj) (by omega)
   simpa [ivA] using this
  obtain ⟨sb, sf, sa⟩ := s
  simp only at s1 s5 s6
  unfold exchangepointref21_outside_L1
  refine Tot.iteT (by simpa using hk) (Tot.jnR (fun m : Bool × api_Addr × List api_Range => ∃ (o : List api_Range) (F : Nat), m.2.2 = acc ++ o ∧ AVr o ∧ Out v ((b.map ivA).take (k + 1)) (o.map ivA) F ∧ o.length ≤ k + 1 ∧ (m.1 = true → aV m.2.1 ∧ m.2.1.fV6 = v ∧ rk m.2.1 = F) ∧ (m.1 = false → F = fhi v + 1) ∧ (flo v ≤ F ∧ F ≤ fhi v + 1) ∧ ∀ j (hj : j < b.length), k + 1 ≤ j → b[j].fFrom.fV6 = v → F ≤ rk b[j].fFrom) (fun j hj => ?_) (fun m hm => Tot.step m (by rw [hw]) hm))
  rw [tk] at hj
  refine Tot.bindIdx k rfl hk (Tot.ite (fun h => ?_) (fun h => ?_))
  ·have hne : ¬ b[k].fFrom.fV6 = v := by simpa using h
   refine hj _ ⟨o, F, s1, s2, out_skip s3 s7.2 fun n h1 h2 h3 => ?_, by omega, s5, s6, s7, fun i hi h1 h2 => s8 i hi (by omega) h2⟩
   have e1 : (ivA b[k]).1 = rk b[k].fFrom := rfl
   have e2 : (ivA b[k]).2 = rk b[k].fTo := rfl
   rw [e1, e2] at h3
   have g1 := fam_in hy.1
   have g2 := fam_in hy.2.1
   rw [← hy.2.2] at g2
   unfold flo fhi at *
   cases c : b[k].fFrom.fV6 <;> rw [c] at g1 g2 hne <;> cases v <;> first | exact (hne rfl).elim | (simp only [Bool.false_eq_true, if_false, if_true] at *; omega)
  ·have he : b[k].fFrom.fV6 = v := by simpa using h
   have hF := s8 k hk (Nat.le_refl _) he
   have g1 := fam_in hy.1
   have g2 := fam_in hy.2.1
   rw [← hy.2.2] at g2
   rw [he] at g1 g2
   have hop : sb = true := by
    cases sb with
    | true => rfl
    | false => have := s6 rfl; omega
   obtain ⟨f1, f2, f3⟩ := s5 hop
   have O := out_next s3 (y := ivA b[k]) hyk hF g1.1 g2.2 s7.1
   obtain ⟨nx, en, nxt, nxf⟩ : ∃ nx, exchangepointref01_Next b[k].fTo = some nx ∧ (nx.2 = true → aV nx.1 ∧ rk nx.1 = rk b[k].fTo + 1 ∧ nx.1.fV6 = b[k].fTo.fV6) ∧ (nx.2 = false → rk b[k].fTo = fhi v) := ⟨NextF b[k].fTo, rnext_eq hy.2.1, next_rk, fun e => by
    have h1 := rk_last hy.2.1 (lastF_V (p0_V v)) (by rw [← hy.2.2, he]; unfold LastF; rw [mkA_v6]; rfl) e
    rw [last_rk] at h1
    omega⟩
   refine Tot.bindOf (racmp_eq f1.1 hy.1.1) (Tot.jnR (fun m : List api_Range => ∃ o2 : List api_Range, m = acc ++ o2 ∧ AVr o2 ∧ o2.map ivA = o.map ivA ++ (if F < rk b[k].fFrom then [(F, rk b[k].fFrom - 1)] else []) ∧ o2.length ≤ k + 1) (fun j2 hj2 => Tot.ite (fun h2 => ?_) (fun h2 => hj2 _ ⟨o, s1, s2, ?_, by omega⟩)) (fun m hm => ?_))
   ·have h2 := (cmpA_lt f1 hy.1).1 (of_decide_eq_true h2)
    rw [f3] at h2
    have hn0 : nA b[k].fFrom ≠ 0 := by
     intro e
     have : rk b[k].fFrom = flo v := by
      rw [← he]
      unfold rk flo
      rw [e]
     omega
    obtain ⟨pv, ep, pvt⟩ : ∃ pv, exchangepointref21_before b[k].fFrom = some pv ∧ (aV pv ∧ rk pv + 1 = rk b[k].fFrom ∧ pv.fV6 = b[k].fFrom.fV6) := ⟨_, rbefore_eq hy.1 hn0, prev_rk hy.1 (by unfold PrevF; rw [if_neg hn0])⟩
    have hlen : (sa ++ [api_Range.mk sf pv]).length = acc.length + o.length + 1 := by rw [s1]; simp; omega
    refine Tot.bindOf ep (Tot.chk (limB (show (sa ++ [api_Range.mk sf pv]).length ≤ 4000000000 by omega)) (hj2 _ ⟨o ++ [api_Range.mk sf pv], by simp only; rw [s1, List.append_assoc], fun z hz2 => ?_, ?_, by simp; omega⟩))
    ·rcases List.mem_append.1 hz2 with e | e
     ·exact s2 z e
     ·rw [List.mem_singleton.1 e]
      exact ⟨f1, pvt.1, by simp only; rw [f2, pvt.2.2, he]⟩
    ·rw [List.map_append, if_pos h2]
     have : ivA (api_Range.mk sf pv) = (F, rk b[k].fFrom - 1) := by
      unfold ivA
      simp only
      rw [f3]
      congr 1
      omega
     rw [List.map_cons, List.map_nil, this]
   ·have h2 := of_decide_eq_false h2
    rw [cmpA_lt f1 hy.1, f3] at h2
    rw [if_neg h2, List.append_nil]
   ·obtain ⟨o2, m1, m2, m3, m4⟩ := hm
    refine Tot.bindOf en (hj _ ⟨o2, rk b[k].fTo + 1, m1, m2, by rw [m3]; exact O, by omega, fun e => ?_, fun e => by rw [nxf e], ⟨by omega, by omega⟩, fun i hi h1 h2 => by have := later i hi h1; omega⟩)
    obtain ⟨n1, n2, n3⟩ := nxt e
    exact ⟨n1, by rw [n3, ← hy.2.2]; exact he, n2⟩
 ·obtain ⟨o, F, s1, s2, s3, s4, s5, s6, s7, s8⟩ := hs
  rw [List.take_of_length_le (by simp)] at s3
  unfold exchangepointref21_outside_L1
  exact Tot.iteF (by simp) (Tot.last ⟨o, F, s1, s2, s3, s4, s5, s6⟩)
structure Whole (v : Bool) (bs o : List Iv) : Prop where
 vl : VL o
 is : ∀ n, inI n o ↔ (flo v ≤ n ∧ n ≤ fhi v) ∧ ¬ inI n bs
 bd : ∀ z ∈ o, flo v ≤ z.1 ∧ z.2 ≤ fhi v
theorem out_fam {b : List api_Range} (hb : AVr b) (hv : VL (b.map ivA)) (hl : b.length ≤ 1000) (v : Bool) {acc : List api_Range} (ha : AVr acc) (hal : acc.length ≤ 2000) {P : List api_Range ⊕ (Int × List api_Range) → Prop} {nxt : List api_Range → Option (List api_Range ⊕ (Int × List api_Range))}
  (h : ∀ o : List api_Range, AVr o → Whole v (b.map ivA) (o.map ivA) → o.length ≤ b.length + 1 → Tot (nxt (acc ++ o)) P) :
  Tot ((loop (exchangepointref21_outside_L1 b v) (true, (0 : Int), api_Addr.mk v 0 0, acc)).bind fun p => jn nxt fun j => if p.1 = true then (exchangepointref02_Last (P0 v)).bind fun r => chk (decide ((p.2.2 ++ [api_Range.mk p.2.1 r]).length ≤ LIM)) (j (p.2.2 ++ [api_Range.mk p.2.1 r])) else j p.2.2) P := by
 refine Tot.bindT (out_in hb hv hl v ha hal) ?_
 rintro p ⟨o, F, p1, p2, p3, p4, p5, p6⟩
 refine Tot.jn (Tot.ite (fun hp => ?_) (fun hp => ?_))
 ·obtain ⟨f1, f2, f3⟩ := p5 hp
  have hlv : aV (LastF (P0 v)) := lastF_V (p0_V v)
  have hle : F ≤ fhi v := by
   have := (fam_in f1).2
   rw [f2, f3] at this
   exact this
  have hlo : flo v ≤ F := by
   have := (fam_in f1).1
   rw [f2, f3] at this
   exact this
  refine Tot.bindOf (rlast_eq (p0_V v)) ?_
  have e1 : p.2.2 ++ [api_Range.mk p.2.1 (LastF (P0 v))] = acc ++ (o ++ [api_Range.mk p.2.1 (LastF (P0 v))]) := by rw [p1, List.append_assoc]
  rw [e1]
  have hlen : (acc ++ (o ++ [api_Range.mk p.2.1 (LastF (P0 v))])).length ≤ 4000000000 := by simp; omega
  have e2 : (o ++ [api_Range.mk p.2.1 (LastF (P0 v))]).map ivA = o.map ivA ++ [(F, fhi v)] := by
   rw [List.map_append]
   have : ivA (api_Range.mk p.2.1 (LastF (P0 v))) = (F, fhi v) := by
    show (rk p.2.1, rk (LastF (P0 v))) = _
    rw [f3, last_rk]
   rw [List.map_cons, List.map_nil, this]
  refine Tot.chk (limB hlen) (h _ (fun z hz => ?_) ?_ (by simp; omega))
  ·rcases List.mem_append.1 hz with e | e
   ·exact p2 z e
   ·rw [List.mem_singleton.1 e]
    refine ⟨f1, hlv, ?_⟩
    show p.2.1.fV6 = (LastF (P0 v)).fV6
    rw [f2]
    unfold LastF
    rw [mkA_v6]
    rfl
  ·rw [e2]
   refine ⟨vl_app p3.vl (vl_one hle) fun x hx y hy => ?_, fun n => ?_, fun z hz => ?_⟩
   ·rw [List.mem_singleton.1 hy]; exact p3.gap x hx
   ·rw [inI_app, inI_one, p3.is]
    simp only
    constructor
    ·rintro (⟨k1, k2⟩ | k)
     ·exact ⟨by omega, k2⟩
     ·refine ⟨by omega, fun e => ?_⟩
      have := p3.past n (by omega) (by omega) e
      omega
    ·rintro ⟨k1, k2⟩
     rcases Nat.lt_or_ge n F with g | g
     ·exact .inl ⟨⟨k1.1, g⟩, k2⟩
     ·exact .inr ⟨g, k1.2⟩
   ·rcases List.mem_append.1 hz with e | e
    ·exact p3.bd z e
    ·rw [List.mem_singleton.1 e]; exact ⟨hlo, Nat.le_refl _⟩
 ·have hF := p6 hp
  rw [p1]
  refine h o p2 ⟨p3.vl, fun n => ?_, p3.bd⟩ (by omega)
  rw [p3.is, hF]
  constructor
  ·rintro ⟨k1, k2⟩; exact ⟨by omega, k2⟩
  ·rintro ⟨k1, k2⟩; exact ⟨by omega, k2⟩
theorem outside_tot {b : List api_Range} (hb : AVr b) (hv : VL (b.map ivA)) (hl : b.length ≤ 400) : Tot (exchangepointref21_outside b) (fun o => AVr o ∧ VL (o.map ivA) ∧ (∀ n, inI n (o.map ivA) ↔ ((flo false ≤ n ∧ n ≤ fhi false) ∨ (flo true ≤ n ∧ n ≤ fhi true)) ∧ ¬ inI n (b.map ivA)) ∧ o.length ≤ 1000) := by
 unfold exchangepointref21_outside
 refine Tot.bindRng 2 (fun k (s : List api_Range) => (((k : Nat) : Int), s)) (fun k s => (k = 0 ∧ s = []) ∨ (k = 1 ∧ AVr s ∧ Whole false (b.map ivA) (s.map ivA) ∧ s.length ≤ b.length + 1) ∨ (k = 2 ∧ ∃ o4 o6, s = o4 ++ o6 ∧ AVr o4 ∧ AVr o6 ∧ Whole false (b.map ivA) (o4.map ivA) ∧ Whole true (b.map ivA) (o6.map ivA) ∧ o4.length ≤ b.length + 1 ∧ o6.length ≤ b.length + 1)) (fun o => AVr o ∧ VL (o.map ivA) ∧ (∀ n, inI n (o.map ivA) ↔ ((flo false ≤ n ∧ n ≤ fhi false) ∨ (flo true ≤ n ∧ n ≤ fhi true)) ∧ ¬ inI n (b.map ivA)) ∧ o.length ≤ 1000) [] rfl (.inl ⟨rfl, rfl⟩) (fun k s hk hs => ?_) (fun s hs => ?_) (fun o ho => Tot.some ho)
 ·unfold exchangepointref21_outside_L0
  rcases hs with ⟨rfl, rfl⟩ | ⟨rfl, s1, s2, s3⟩ | ⟨rfl, _⟩
  ·refine Tot.iteT rfl (Tot.bindIdx 0 rfl (by decide) (out_fam hb hv (by omega) false (fun x hx => (by cases hx)) (by simp) fun o h1 h2 h3 => ?_))
   exact Tot.step o (by rw [w64_id (by omega) (by omega)]; rfl) (.inr (.inl ⟨rfl, h1, h2, h3⟩))
  ·refine Tot.iteT rfl (Tot.bindIdx 1 rfl (by decide) (out_fam hb hv (by omega) true s1 (by omega) fun o h1 h2 h3 => ?_))
   exact Tot.step (s ++ o) (by rw [w64_id (by omega) (by omega)]; rfl) (.inr (.inr ⟨rfl, s, o, rfl, s1, h1, s2, h2, s3, h3⟩))
  ·omega
 ·rcases hs with ⟨h, _⟩ | ⟨h, _⟩ | ⟨_, o4, o6, rfl, a4, a6, w4, w6, l4, l6⟩
  ·cases h
  ·cases h
  ·unfold exchangepointref21_outside_L0
   refine Tot.iteF rfl (Tot.last ⟨fun x hx => (List.mem_append.1 hx).elim (a4 x) (a6 x), ?_, fun n => ?_, by rw [List.length_append]; omega⟩)
   ·rw [List.map_append]
    refine vl_app w4.vl w6.vl fun x hx y hy => ?_
    have h1 := (w4.bd x hx).2
    have h2 := (w6.bd y hy).1
    have e1 : fhi false = 4294967295 := rfl
    have e2 : flo true = 4294967297 := rfl
    omega
   ·rw [List.map_append, inI_app, w4.is, w6.is]
    constructor
    ·rintro (h | h)
     ·exact ⟨.inl h.1, h.2⟩
     ·exact ⟨.inr h.1, h.2⟩
    ·rintro ⟨h | h, k⟩
     ·exact .inl ⟨h, k⟩
     ·exact .inr ⟨h, k⟩
theorem max_nat (a b : Int) : (maxI a b).toNat = max a.toNat b.toNat := by unfold maxI; split <;> omega
theorem min_nat (a b : Int) : (minI a b).toNat = min a.toNat b.toNat := by unfold minI; split <;> omega
theorem piece_S {x y : api_Span} (hx : okN x.fFrom x.fTo) (hy : okN y.fFrom y.fTo) : (maxI x.fFrom y.fFrom ≤ minI x.fTo y.fTo ↔ max (ivS x).1 (ivS y).1 ≤ min (ivS x).2 (ivS y).2) ∧ (maxI x.fFrom y.fFrom ≤ minI x.fTo y.fTo → okN (maxI x.fFrom y.fFrom) (minI x.fTo y.fTo)) ∧ ivS (api_Span.mk (maxI x.fFrom y.fFrom) (minI x.fTo y.fTo)) = (max (ivS x).1 (ivS y).1, min (ivS x).2 (ivS y).2) := by
 obtain ⟨x0, x1, x2⟩ := hx
 obtain ⟨y0, y1, y2⟩ := hy
 refine ⟨?_, fun h => ⟨?_, h, ?_⟩, ?_⟩
 ·unfold ivS maxI minI
  simp only
  split <;> split <;> omega
 ·unfold maxI; split <;> omega
 ·unfold minI; split <;> omega
 ·unfold ivS
  simp only
  rw [max_nat, min_nat]
theorem stepS {x y : api_Span} (hx : okN x.fFrom x.fTo) (hy : okN y.fFrom y.fTo) {s acc : List api_Span} {bs : List Iv} (s1 : SVr s) (s2 : s.map ivS = acc.map ivS ++ cut1 (ivS x) bs) {S X : Type} {P : X ⊕ S → Prop} {rest : List api_Span → Option (X ⊕ S)} (hl : s.length ≤ 1000000)
  (h : ∀ o, SVr o → o.map ivS = acc.map ivS ++ cut1 (ivS x) (bs ++ [ivS y]) → Tot (rest o) P) :
  Tot (jn rest fun j => if (decide ((maxI x.fFrom y.fFrom) ≤ (minI x.fTo y.fTo))) = true then chk (decide ((s ++ ([(api_Span.mk (maxI x.fFrom y.fFrom) (minI x.fTo y.fTo))] : List api_Span)).length ≤ LIM)) (j (s ++ ([(api_Span.mk (maxI x.fFrom y.fFrom) (minI x.fTo y.fTo))] : List api_Span))) else j s) P := by
 obtain ⟨k1, k2, k3⟩ := piece_S hx hy
 refine Tot.jn (Tot.ite (fun c => ?_) (fun c => h s s1 ?_))
 ·have c := of_decide_eq_true c
  refine Tot.chk (limB (by simp; omega)) (h _ (fun z hz => ?_) ?_)
  ·rcases List.mem_append.1 hz with e | e
   ·exact s1 z e
   ·rw [List.mem_singleton.1 e]; exact k2 c
  ·rw [List.map_append, List.map_cons, List.map_nil, k3, s2, cut1_snoc, if_pos (k1.1 c), List.append_assoc]
 ·have c := of_decide_eq_false c
  rw [s2, cut1_snoc, if_neg (fun e => c (k1.2 e)), List.append_nil]
theorem cut_len {s acc : List api_Span} {x : Iv} {bs : List Iv} (s2 : s.map ivS = acc.map ivS ++ cut1 x bs) : s.length ≤ acc.length + bs.length := by
 have h1 := congrArg List.length s2
 rw [List.length_map, List.length_append, List.length_map] at h1
 have h2 := cut1_len x bs
 omega
theorem rcutS_in {a1 : api_Resources} (hb : SVr a1.fASNs) (hl : a1.fASNs.length ≤ 1000) {x : api_Span} (hx : okN x.fFrom x.fTo) {acc : List api_Span} (ha : SVr acc) (hal : acc.length ≤ 900000) :
  Tot (loop (exchangepointref21_Intersect_L3 a1 x) ((0 : Int), acc)) (fun o => SVr o ∧ o.map ivS = acc.map ivS ++ cut1 (ivS x) (a1.fASNs.map ivS)) := by
 refine Tot.rng a1.fASNs.length (fun k (s : List api_Span) => (((k : Nat) : Int), s)) (fun k s => SVr s ∧ s.map ivS = acc.map ivS ++ cut1 (ivS x) ((a1.fASNs.map ivS).take k)) _ acc rfl ⟨ha, by simp [cut1]⟩ (fun k s hk hs => ?_) (fun s hs => ?_)
 ·obtain ⟨s1, s2⟩ := hs
  have hw : w64 ((k : Int) + 1) = ((k + 1 : Nat) : Int) := by rw [w64_id (by omega) (by omega)]; rfl
  have hkm : k < (a1.fASNs.map ivS).length := by simpa using hk
  have hgk : (a1.fASNs.map ivS)[k] = ivS a1.fASNs[k] := by simp
  have hsl := cut_len s2
  rw [List.length_take] at hsl
  unfold exchangepointref21_Intersect_L3
  refine Tot.iteT (by simpa using hk) (Tot.bindIdx k rfl hk (stepS hx (hb _ (List.getElem_mem hk)) s1 s2 (by omega) fun o o1 o2 => Tot.step o (by rw [hw]) ⟨o1, ?_⟩))
  rw [take_snoc hkm, hgk]
  exact o2
 ·unfold exchangepointref21_Intersect_L3
  refine Tot.iteF (by simp) (Tot.last ?_)
  rw [List.take_of_length_le (by simp)] at hs
  exact hs
theorem rcutS2_in {m : List api_Span} (hb : SVr m) (hl : m.length ≤ 1000) {x : api_Span} (hx : okN x.fFrom x.fTo) {acc : List api_Span} (ha : SVr acc) (hal : acc.length ≤ 900000) :
  Tot (loop (exchangepointref21_Minus_L4 m x) ((0 : Int), acc)) (fun o => SVr o ∧ o.map ivS = acc.map ivS ++ cut1 (ivS x) (m.map ivS)) := by
 refine Tot.rng m.length (fun k (s : List api_Span) => (((k : Nat) : Int), s)) (fun k s => SVr s ∧ s.map ivS = acc.map ivS ++ cut1 (ivS x) ((m.map ivS).take k)) _ acc rfl ⟨ha, by simp [cut1]⟩ (fun k s hk hs => ?_) (fun s hs => ?_)
 ·obtain ⟨s1, s2⟩ := hs
  have hw : w64 ((k : Int) + 1) = ((k + 1 : Nat) : Int) := by rw [w64_id (by omega) (by omega)]; rfl
  have hkm : k < (m.map ivS).length := by simpa using hk
  have hgk : (m.map ivS)[k] = ivS m[k] := by simp
  have hsl := cut_len s2
  rw [List.length_take] at hsl
  unfold exchangepointref21_Minus_L4
  refine Tot.iteT (by simpa using hk) (Tot.bindIdx k rfl hk (Tot.bindIdx k rfl hk (stepS hx (hb _ (List.getElem_mem hk)) s1 s2 (by omega) fun o o1 o2 => Tot.step o (by rw [hw]) ⟨o1, ?_⟩)))
  rw [take_snoc hkm, hgk]
  exact o2
 ·unfold exchangepointref21_Minus_L4
  refine Tot.iteF (by simp) (Tot.last ?_)
  rw [List.take_of_length_le (by simp)] at hs
  exact hs
theorem cuts_len (b : List Iv) : ∀ l : List Iv, (cutsL l b).length ≤ l.length * b.length
 | [] => by simp [cutsL]
 | z :: l => by
  have e : cutsL (z :: l) b = cut1 z b ++ cutsL l b := by unfold cutsL; rw [List.flatMap_cons]
  have := cuts_len b l
  have h5 := cut1_len z b
  rw [e, List.length_append, List.length_cons, Nat.succ_mul]
  omega
theorem lenS {s : List api_Span} {l b : List Iv} (h : s.map ivS = cutsL l b) {n m : Nat} (h1 : l.length ≤ n) (h2 : b.length ≤ m) : s.length ≤ n * m := by
 have h3 := congrArg List.length h
 rw [List.length_map] at h3
 rw [h3]
 exact Nat.le_trans (cuts_len b l) (Nat.mul_le_mul h1 h2)
theorem rcutS_tot {a0 a1 : api_Resources} (ha : SVr a0.fASNs) (hb : SVr a1.fASNs) (hl0 : a0.fASNs.length ≤ 300) (hl : a1.fASNs.length ≤ 1000) :
  Tot (loop (exchangepointref21_Intersect_L2 a0 a1) ((0 : Int), ([] : List api_Span))) (fun o => SVr o ∧ o.map ivS = cutsL (a0.fASNs.map ivS) (a1.fASNs.map ivS)) := by
 refine Tot.rng a0.fASNs.length (fun k (s : List api_Span) => (((k : Nat) : Int), s)) (fun k s => SVr s ∧ s.map ivS = cutsL ((a0.fASNs.map ivS).take k) (a1.fASNs.map ivS)) _ [] rfl ⟨fun x hx => (by cases hx), rfl⟩ (fun k s hk hs => ?_) (fun s hs => ?_)
 ·obtain ⟨s1, s2⟩ := hs
  have hw : w64 ((k : Int) + 1) = ((k + 1 : Nat) : Int) := by rw [w64_id (by omega) (by omega)]; rfl
  have hkm : k < (a0.fASNs.map ivS).length := by simpa using hk
  have hgk : (a0.fASNs.map ivS)[k] = ivS a0.fASNs[k] := by simp
  have hsl := lenS s2 (n := 300) (m := 1000) (by rw [List.length_take, List.length_map]; omega) (by rw [List.length_map]; exact hl)
  unfold exchangepointref21_Intersect_L2
  refine Tot.iteT (by simpa using hk) (Tot.bindIdx k rfl hk (Tot.bindT (rcutS_in hb hl (ha _ (List.getElem_mem hk)) s1 (show s.length ≤ 900000 by omega)) fun o ho => Tot.step o (by rw [hw]) ⟨ho.1, ?_⟩))
  rw [take_snoc hkm, hgk, cuts_snoc, ← s2]
  exact ho.2
 ·unfold exchangepointref21_Intersect_L2
  refine Tot.iteF (by simp) (Tot.last ?_)
  rw [List.take_of_length_le (by simp)] at hs
  exact hs
theorem rcutS2_tot {a0 : api_Resources} {m : List api_Span} (ha : SVr a0.fASNs) (hb : SVr m) (hl0 : a0.fASNs.length ≤ 300) (hl : m.length ≤ 1000) :
  Tot (loop (exchangepointref21_Minus_L3 a0 m) ((0 : Int), ([] : List api_Span))) (fun o => SVr o ∧ o.map ivS = cutsL (a0.fASNs.map ivS) (m.map ivS)) := by
 refine Tot.rng a0.fASNs.length (fun k (s : List api_Span) => (((k : Nat) : Int), s)) (fun k s => SVr s ∧ s.map ivS = cutsL ((a0.fASNs.map ivS).take k) (m.map ivS)) _ [] rfl ⟨fun x hx => (by cases hx), rfl⟩ (fun k s hk hs => ?_) (fun s hs => ?_)
 ·obtain ⟨s1, s2⟩ := hs
  have hw : w64 ((k : Int) + 1) = ((k + 1 : Nat) : Int) := by rw [w64_id (by omega) (by omega)]; rfl
  have hkm : k < (a0.fASNs.map ivS).length := by simpa using hk
  have hgk : (a0.fASNs.map ivS)[k] = ivS a0.fASNs[k] := by simp
  have hsl := lenS s2 (n := 300) (m := 1000) (by rw [List.length_take, List.length_map]; omega) (by rw [List.length_map]; exact hl)
  unfold exchangepointref21_Minus_L3
  refine Tot.iteT (by simpa using hk) (Tot.bindIdx k rfl hk (Tot.bindT (rcutS2_in hb hl (ha _ (List.getElem_mem hk)) s1 (show s.length ≤ 900000 by omega)) fun o ho => Tot.step o (by rw [hw]) ⟨ho.1, ?_⟩))
  rw [take_snoc hkm, hgk, cuts_snoc, ← s2]
  exact ho.2
 ·unfold exchangepointref21_Minus_L3
  refine Tot.iteF (by simp) (Tot.last ?_)
  rw [List.take_of_length_le (by simp)] at hs
  exact hs
theorem outS_tot {a1 : api_Resources} (hb : SVr a1.fASNs) (hv : VL (a1.fASNs.map ivS)) (hl : a1.fASNs.length ≤ 400) : Tot (loop (exchangepointref21_Minus_L0 a1) ((0 : Int), (0 : Int), ([] : List api_Span))) (fun p => SVr p.2 ∧ Out false (a1.fASNs.map ivS) (p.2.map ivS) p.1.toNat ∧ 0 ≤ p.1 ∧ p.1 ≤ 4294967296 ∧ p.2.length ≤ a1.fASNs.length) := by
 refine Tot.rng a1.fASNs.length (fun k (s : Int × List api_Span) => (s.1, ((k : Nat) : Int), s.2)) (fun k s => SVr s.2 ∧ Out false ((a1.fASNs.map ivS).take k) (s.2.map ivS) s.1.toNat ∧ 0 ≤ s.1 ∧ s.1 ≤ 4294967296 ∧ s.2.length ≤ k ∧ ∀ j (hj : j < a1.fASNs.length), k ≤ j → s.1 ≤ a1.fASNs[j].fFrom) _ (0, []) rfl ⟨fun x hx => (by cases hx), (by rw [List.take_zero]; exact out_start false), Int.le_refl _, by decide, Nat.le_refl _, fun j hj _ => (hb _ (List.getElem_mem hj)).1⟩ (fun k s hk hs => ?_) (fun s hs => ?_)
 ·obtain ⟨s1, s2, s3, s4, s5, s6⟩ := hs
  have hw : w64 ((k : Int) + 1) = ((k + 1 : Nat) : Int) := by rw [w64_id (by omega) (by omega)]; rfl
  obtain ⟨y0, y1, y2⟩ := hb _ (List.getElem_mem hk)
  have hkm : k < (a1.fASNs.map ivS).length := by simpa using hk
  have hgk : (a1.fASNs.map ivS)[k] = (a1.fASNs[k].fFrom.toNat, a1.fASNs[k].fTo.toNat) := by simp [ivS]
  have hF := s6 k hk (Nat.le_refl _)
  have later : ∀ j (hj : j < a1.fASNs.length), k + 1 ≤ j → a1.fASNs[k].fTo + 1 < a1.fASNs[j].fFrom := fun j hj h => by
   have := List.pairwise_iff_getElem.1 hv.2 k j (by simpa using hk) (by simpa using hj) (by omega)
   have := hb _ (List.getElem_mem hj)
   simp only [List.getElem_map, ivS] at *
   omega
  have O := out_next s2 (y := (a1.fASNs[k].fFrom.toNat, a1.fASNs[k].fTo.toNat)) (by simp only; omega) (by simp only; omega) (Nat.zero_le _) (show a1.fASNs[k].fTo.toNat ≤ 4294967295 by omega) (Nat.zero_le _)
  have tk : (a1.fASNs.map ivS).take (k + 1) = (a1.fASNs.map ivS).take k ++ [(a1.fASNs[k].fFrom.toNat, a1.fASNs[k].fTo.toNat)] := by rw [take_snoc hkm, hgk]
  unfold exchangepointref21_Minus_L0
  refine Tot.iteT (by simpa using hk) (Tot.bindIdx k rfl hk ?_)
  rw [w64_id (n := a1.fASNs[k].fTo + 1) (by omega) (by omega), w64_id (n := a1.fASNs[k].fFrom - 1) (by omega) (by omega)]
  have e9 : (a1.fASNs[k].fTo + 1).toNat = a1.fASNs[k].fTo.toNat + 1 := by omega
  refine Tot.jnR (fun m : List api_Span => SVr m ∧ m.map ivS = s.2.map ivS ++ (if s.1.toNat < a1.fASNs[k].fFrom.toNat then [(s.1.toNat, a1.fASNs[k].fFrom.toNat - 1)] else []) ∧ m.length ≤ k + 1) (fun j hj => Tot.ite (fun h => ?_) (fun h => hj _ ⟨s1, ?_, by simp only; omega⟩)) (fun m hm => Tot.step (a1.fASNs[k].fTo + 1, m) (by rw [hw]) ⟨hm.1, by simp only; rw [tk, e9, hm.2.1]; exact O, by simp only; omega, by simp only; omega, hm.2.2, fun j hj h => by have := later j hj h; simp only; omega⟩)
  ·have h : s.1 < a1.fASNs[k].fFrom := of_decide_eq_true h
   have hlen : (s.2 ++ [api_Span.mk s.1 (a1.fASNs[k].fFrom - 1)]).length = s.2.length + 1 := by simp
   refine Tot.chk (limB (show (s.2 ++ [api_Span.mk s.1 (a1.fASNs[k].fFrom - 1)]).length ≤ 4000000000 by omega)) (hj _ ⟨fun z hz => ?_, ?_, by simp only; omega⟩)
   ·rcases List.mem_append.1 hz with e | e
    ·exact s1 z e
    ·rw [List.mem_singleton.1 e]
     exact ⟨s3, by simp only; omega, by simp only; omega⟩
   ·rw [List.map_append, if_pos (by omega)]
    have : ivS (api_Span.mk s.1 (a1.fASNs[k].fFrom - 1)) = (s.1.toNat, a1.fASNs[k].fFrom.toNat - 1) := by
     unfold ivS
     simp only
     congr 1
     omega
    rw [List.map_cons, List.map_nil, this]
  ·have h : ¬ s.1 < a1.fASNs[k].fFrom := of_decide_eq_false h
   rw [if_neg (by omega), List.append_nil]
 ·obtain ⟨s1, s2, s3, s4, s5, s6⟩ := hs
  rw [List.take_of_length_le (by simp)] at s2
  unfold exchangepointref21_Minus_L0
  exact Tot.iteF (by simp) (Tot.last ⟨s1, s2, s3, s4, s5⟩)
theorem rboth_V {a b : api_Resources} (ha : VRes a) (hb : VRes b) {j : Bool → Option (api_Resources × Int)} {Q : api_Resources × Int → Prop} (h : Tot (j false) Q) :
  Tot ((exchangepointref21_Valid a).bind fun r => if (!r) = true then j true else (exchangepointref21_Valid b).bind fun s => j (!s)) Q := by
 have := ha.la
 have := ha.ls
 have := hb.la
 have := hb.ls
 refine Tot.bindT (rvalid21 ha.R (by omega) (by omega)) fun r hr => ?_
 have hr : r = true := hr.2 ha
 subst hr
 refine Tot.iteF rfl (Tot.bindT (rvalid21 hb.R (by omega) (by omega)) fun s hs => ?_)
 have hs : s = true := hs.2 hb
 subst hs
 exact h
theorem runi_tot {a b : api_Resources} (ha : VRes a) (hb : VRes b) : Tot (exchangepointref21_Union a b) (fun x => ∃ A S, SetIs A S (fun n => cA a n ∨ cA b n) (fun n => cS a n ∨ cS b n) ∧ x = LimF A S) := by
 have l1 := ha.la
 have l2 := ha.ls
 have l3 := hb.la
 have l4 := hb.ls
 unfold exchangepointref21_Union
 refine Tot.jnR (fun m : Bool => m = false) (fun j hj => rboth_V ha hb (hj _ rfl)) (fun m hm => Tot.iteF hm ?_)
 have n1 : (a.fAddrs ++ b.fAddrs).length = a.fAddrs.length + b.fAddrs.length := List.length_append
 have n2 : (a.fASNs ++ b.fASNs).length = a.fASNs.length + b.fASNs.length := List.length_append
 have v1 : AVr (a.fAddrs ++ b.fAddrs) := fun x hx => (List.mem_append.1 hx).elim (ha.av x) (hb.av x)
 have v2 : SVr (a.fASNs ++ b.fASNs) := fun x hx => (List.mem_append.1 hx).elim (ha.sv x) (hb.sv x)
 have o1 : okI ((a.fAddrs ++ b.fAddrs).map ivA) := by
  rw [List.map_append]
  exact fun x hx => (List.mem_append.1 hx).elim (ha.va.1 x) (hb.va.1 x)
 refine Tot.chk (limB (by omega)) (Tot.chk (limB (by omega)) (Tot.bindT (ranges_tot v1 o1 (by omega)) fun A hA => Tot.chk (limB (by omega)) (Tot.chk (limB (by omega)) (Tot.bindT (spans_tot v2 (by omega)) fun S hS => Tot.bindOf (lim_eq A S) (Tot.some ⟨A, S, ⟨hA.1, hA.2.1, fun n => ?_, hS.1, hS.2.1, fun n => ?_⟩, rfl⟩)))))
 ·rw [hA.2.2.1, List.map_append]; exact inI_app
 ·rw [hS.2.2.1, List.map_append]; exact inI_app
theorem rint_tot {a b : api_Resources} (ha : VRes a) (hb : VRes b) : Tot (exchangepointref21_Intersect a b) (fun x => ∃ A S, SetIs A S (fun n => cA a n ∧ cA b n) (fun n => cS a n ∧ cS b n) ∧ x = LimF A S) := by
 have l1 := ha.la
 have l2 := ha.ls
 have l3 := hb.la
 have l4 := hb.ls
 unfold exchangepointref21_Intersect
 refine Tot.jnR (fun m : Bool => m = false) (fun j hj => rboth_V ha hb (hj _ rfl)) (fun m hm => Tot.iteF hm ?_)
 refine Tot.bindT (rcut_tot ha.av hb.av (by omega) (by omega)) fun o ho => Tot.bindT (rcutS_tot ha.sv hb.sv (by omega) (by omega)) fun s hs => ?_
 obtain ⟨c1, c2, c3⟩ := cutsL_ok hb.va ha.va
 obtain ⟨d1, d2, d3⟩ := cutsL_ok hb.vs ha.vs
 have e1 := congrArg List.length ho.2
 have e2 := congrArg List.length hs.2
 simp only [List.length_map] at e1 e2 c3 d3
 have b3 : a.fAddrs.length * b.fAddrs.length ≤ 256 * 256 := Nat.mul_le_mul l1 l3
 have b4 : a.fASNs.length * b.fASNs.length ≤ 256 * 256 := Nat.mul_le_mul l2 l4
 refine Tot.bindT (ranges_tot ho.1 (by rw [ho.2]; exact c1.1) (by omega)) fun A hA => Tot.bindT (spans_tot hs.1 (by omega)) fun S hS => Tot.bindOf (lim_eq A S) (Tot.some ⟨A, S, ⟨hA.1, hA.2.1, fun n => ?_, hS.1, hS.2.1, fun n => ?_⟩, rfl⟩)
 ·rw [hA.2.2.1, ho.2]; exact c2 n
 ·rw [hS.2.2.1, hs.2]; exact d2 n
theorem cA_bd {r : api_Resources} (h : VRes r) {n : Nat} (hn : cA r n) : (flo false ≤ n ∧ n ≤ fhi false) ∨ (flo true ≤ n ∧ n ≤ fhi true) := by
 obtain ⟨y, hy, h1, h2⟩ := hn
 obtain ⟨x, hx, rfl⟩ := List.mem_map.1 hy
 obtain ⟨x1, x2, x3⟩ := h.av x hx
 have g1 := (fam_in x1).1
 have g2 := (fam_in x2).2
 rw [← x3] at g2
 have k1 : rk x.fFrom ≤ n := h1
 have k2 : n ≤ rk x.fTo := h2
 cases c : x.fFrom.fV6 <;> rw [c] at g1 g2
 ·left; omega
 ·right; omega
theorem cS_bd {r : api_Resources} (h : VRes r) {n : Nat} (hn : cS r n) : n ≤ 4294967295 := by
 obtain ⟨y, hy, h1, h2⟩ := hn
 obtain ⟨x, hx, rfl⟩ := List.mem_map.1 hy
 obtain ⟨x1, x2, x3⟩ := h.sv x hx
 have k2 : n ≤ x.fTo.toNat := h2
 omega
theorem minus_L1_eq (a0 : api_Resources) (r8 : List api_Range) : exchangepointref21_Minus_L1 a0 r8 = exchangepointref21_Intersect_L0 a0 (api_Resources.mk r8 []) := rfl
theorem rmin_tot {a b : api_Resources} (ha : VRes a) (hb : VRes b) : Tot (exchangepointref21_Minus a b) (fun x => ∃ A S, SetIs A S (fun n => cA a n ∧ ¬ cA b n) (fun n => cS a n ∧ ¬ cS b n) ∧ x = LimF A S) := by
 have l1 := ha.la
 have l2 := ha.ls
 have l3 := hb.la
 have l4 := hb.ls
 unfold exchangepointref21_Minus
 refine Tot.jnR (fun m : Bool => m = false) (fun j hj => rboth_V ha hb (hj _ rfl)) (fun m hm => Tot.iteF hm ?_)
 refine Tot.bindT (outside_tot hb.av hb.va (by omega)) fun r hr => Tot.bindT (outS_tot hb.sv hb.vs (by omega)) fun p hp => ?_
 obtain ⟨r1, r2, r3, r4⟩ := hr
 obtain ⟨p1, p2, p3, p4, p5⟩ := hp
 refine Tot.jnR (fun m : List api_Span => SVr m ∧ VL (m.map ivS) ∧ (∀ n, inI n (m.map ivS) ↔ n ≤ 4294967295 ∧ ¬ cS b n) ∧ m.length ≤ 1000) (fun j hj => Tot.ite (fun h => ?_) (fun h => hj _ ⟨p1, p2.vl, fun n => ?_, by omega⟩)) (fun m hm2 => ?_)
 ·have h : p.1 ≤ 4294967295 := of_decide_eq_true h
  have e1 : (p.2 ++ [api_Span.mk p.1 4294967295]).map ivS = p.2.map ivS ++ [(p.1.toNat, 4294967295)] := by rw [List.map_append]; rfl
  have hlen : (p.2 ++ [api_Span.mk p.1 4294967295]).length = p.2.length + 1 := by simp
  refine Tot.chk (limB (by omega)) (hj _ ⟨fun z hz => ?_, ?_, fun n => ?_, by omega⟩)
  ·rcases List.mem_append.1 hz with e | e
   ·exact p1 z e
   ·rw [List.mem_singleton.1 e]
    exact ⟨p3, h, Int.le_refl _⟩
  ·rw [e1]
   refine vl_app p2.vl (vl_one (by simp only; omega)) fun x hx y hy => ?_
   rw [List.mem_singleton.1 hy]
   exact p2.gap x hx
  ·rw [e1, inI_app, inI_one, p2.is]
   have z0 : flo false = 0 := rfl
   simp only
   constructor
   ·rintro (⟨k1, k2⟩ | k)
    ·exact ⟨by omega, k2⟩
    ·refine ⟨by omega, fun e => ?_⟩
     have := p2.past n (by omega) (show n ≤ 4294967295 by omega) e
     omega
   ·rintro ⟨k1, k2⟩
    rcases Nat.lt_or_ge n p.1.toNat with g | g
    ·exact .inl ⟨⟨by omega, g⟩, k2⟩
    ·exact .inr ⟨g, k1⟩
 ·have h : ¬ p.1 ≤ 4294967295 := of_decide_eq_false h
  rw [p2.is]
  have z0 : flo false = 0 := rfl
  constructor
  ·rintro ⟨k1, k2⟩; exact ⟨by omega, k2⟩
  ·rintro ⟨k1, k2⟩; exact ⟨by omega, k2⟩
 ·obtain ⟨m1, m2, m3, m4⟩ := hm2
  rw [minus_L1_eq]
  refine Tot.bindT (rcut_tot (a1 := api_Resources.mk r []) ha.av r1 (by omega) r4) fun o ho => Tot.bindT (rcutS2_tot ha.sv m1 (by omega) m4) fun s hs => ?_
  obtain ⟨c1, c2, c3⟩ := cutsL_ok r2 ha.va
  obtain ⟨d1, d2, d3⟩ := cutsL_ok m2 ha.vs
  refine Tot.bindOf (lim_eq o s) (Tot.some ⟨o, s, ⟨ho.1, by rw [ho.2]; exact c1, fun n => ?_, hs.1, by rw [hs.2]; exact d1, fun n => ?_⟩, rfl⟩)
  ·rw [ho.2, c2, r3]
   exact ⟨fun e => ⟨e.1, e.2.2⟩, fun e => ⟨e.1, cA_bd ha e.1, e.2⟩⟩
  ·rw [hs.2, d2, m3]
   exact ⟨fun e => ⟨e.1, e.2.2⟩, fun e => ⟨e.1, cS_bd ha e.1, e.2⟩⟩
theorem bad_V {a b : api_Resources} (hn : ¬ (VRes a ∧ VRes b)) (ra : RRes a) (rb : RRes b) (l1 : a.fAddrs.length ≤ 1000000) (l2 : a.fASNs.length ≤ 1000000) (l3 : b.fAddrs.length ≤ 1000000) (l4 : b.fASNs.length ≤ 1000000) {j : Bool → Option (api_Resources × Int)} {Q : api_Resources × Int → Prop} (h : Tot (j true) Q) :
  Tot ((resource_Valid a).bind fun r => if (!r) = true then j true else (resource_Valid b).bind fun s => j (!s)) Q := by
 refine Tot.bindT (valid_eq ra l1 l2) fun r hr => Tot.ite (fun _ => h) (fun c => Tot.bindT (valid_eq rb l3 l4) fun s hs => ?_)
 have : s = false := by
  cases s with
  | false => rfl
  | true => exact (hn ⟨hr.1 (by simpa using c), hs.1 rfl⟩).elim
 rw [this]
 exact h
theorem rbad_V {a b : api_Resources} (hn : ¬ (VRes a ∧ VRes b)) (ra : RRes a) (rb : RRes b) (l1 : a.fAddrs.length ≤ 1000000) (l2 : a.fASNs.length ≤ 1000000) (l3 : b.fAddrs.length ≤ 1000000) (l4 : b.fASNs.length ≤ 1000000) {j : Bool → Option (api_Resources × Int)} {Q : api_Resources × Int → Prop} (h : Tot (j true) Q) :
  Tot ((exchangepointref21_Valid a).bind fun r => if (!r) = true then j true else (exchangepointref21_Valid b).bind fun s => j (!s)) Q := by
 refine Tot.bindT (rvalid21 ra l1 l2) fun r hr => Tot.ite (fun _ => h) (fun c => Tot.bindT (rvalid21 rb l3 l4) fun s hs => ?_)
 have : s = false := by
  cases s with
  | false => rfl
  | true => exact (hn ⟨hr.1 (by simpa using c), hs.1 rfl⟩).elim
 rw [this]
 exact h
structure Raw (r : api_Resources) : Prop where
 R : RRes r
 la : r.fAddrs.length ≤ 1000000
 ls : r.fASNs.length ≤ 1000000
def Agree (f g : api_Resources → api_Resources → Option (api_Resources × Int)) (a b : api_Resources) : Prop := ∃ x, f a b = some x ∧ g a b = some x ∧ x.1.fAddrs.length ≤ 256 ∧ x.1.fASNs.length ≤ 256
theorem limF_len {a : List api_Range} {s : List api_Span} : (LimF a s).1.fAddrs.length ≤ 256 ∧ (LimF a s).1.fASNs.length ≤ 256 := by
 unfold LimF
 split
 ·exact ⟨by decide, by decide⟩
 ·simp only; omega
theorem agree_of {f g : api_Resources → api_Resources → Option (api_Resources × Int)} {a b : api_Resources} {p q : Nat → Prop} (h : Tot (f a b) fun x => ∃ A S, SetIs A S p q ∧ x = LimF A S) (k : Tot (g a b) fun x => ∃ A S, SetIs A S p q ∧ x = LimF A S) : Agree f g a b := by
 obtain ⟨_, e, A, S, h1, rfl⟩ := h
 obtain ⟨_, e', A', S', h2, rfl⟩ := k
 obtain ⟨rfl, rfl⟩ := set_one h1 h2 (fun _ => Iff.rfl) (fun _ => Iff.rfl)
 exact ⟨_, e, e', limF_len⟩
theorem agree_bad {f g : api_Resources → api_Resources → Option (api_Resources × Int)} {a b : api_Resources} (h : Tot (f a b) fun x => x = (zR, 1)) (k : Tot (g a b) fun x => x = (zR, 1)) : Agree f g a b :=
 ⟨_, Tot.eq h, Tot.eq k, by decide, by decide⟩
theorem uni_agree {a b : api_Resources} (ha : Raw a) (hb : Raw b) : Agree resource_Union exchangepointref21_Union a b := by
 by_cases c : VRes a ∧ VRes b
 ·exact agree_of ((uni_tot c.1 c.2).mono fun x ⟨A, S, h, _, _, e⟩ => ⟨A, S, h, e⟩) (runi_tot c.1 c.2)
 ·refine agree_bad ?_ ?_
  ·unfold resource_Union
   exact Tot.jnR (fun m : Bool => m = true) (fun j hj => bad_V c ha.R hb.R ha.la ha.ls hb.la hb.ls (hj _ rfl)) (fun m hm => Tot.iteT hm (Tot.some rfl))
  ·unfold exchangepointref21_Union
   exact Tot.jnR (fun m : Bool => m = true) (fun j hj => rbad_V c ha.R hb.R ha.la ha.ls hb.la hb.ls (hj _ rfl)) (fun m hm => Tot.iteT hm (Tot.some rfl))
theorem int_agree {a b : api_Resources} (ha : Raw a) (hb : Raw b) : Agree resource_Intersect exchangepointref21_Intersect a b := by
 by_cases c : VRes a ∧ VRes b
 ·exact agree_of ((int_tot c.1 c.2).mono fun x ⟨A, S, h, _, _, e⟩ => ⟨A, S, h, e⟩) (rint_tot c.1 c.2)
 ·refine agree_bad ?_ ?_
  ·unfold resource_Intersect
   exact Tot.jnR (fun m : Bool => m = true) (fun j hj => bad_V c ha.R hb.R ha.la ha.ls hb.la hb.ls (hj _ rfl)) (fun m hm => Tot.iteT hm (Tot.some rfl))
  ·unfold exchangepointref21_Intersect
   exact Tot.jnR (fun m : Bool => m = true) (fun j hj => rbad_V c ha.R hb.R ha.la ha.ls hb.la hb.ls (hj _ rfl)) (fun m hm => Tot.iteT hm (Tot.some rfl))
theorem min_agree {a b : api_Resources} (ha : Raw a) (hb : Raw b) : Agree resource_Minus exchangepointref21_Minus a b := by
 by_cases c : VRes a ∧ VRes b
 ·exact agree_of ((min_tot c.1 c.2).mono fun x ⟨A, S, h, _, _, e⟩ => ⟨A, S, h, e⟩) (rmin_tot c.1 c.2)
 ·refine agree_bad ?_ ?_
  ·unfold resource_Minus
   exact Tot.jnR (fun m : Bool => m = true) (fun j hj => bad_V c ha.R hb.R ha.la ha.ls hb.la hb.ls (hj _ rfl)) (fun m hm => Tot.iteT hm (Tot.some rfl))
  ·unfold exchangepointref21_Minus
   exact Tot.jnR (fun m : Bool => m = true) (fun j hj => rbad_V c ha.R hb.R ha.la ha.ls hb.la hb.ls (hj _ rfl)) (fun m hm => Tot.iteT hm (Tot.some rfl))
theorem joins_L0 {a0 r8 : api_Resources} {r5 r7 : api_Resources × exchangepointmake_Deck} (h0 : Raw a0) (h5 : Raw r5.1) (h7 : Raw r7.1) (h8 : Raw r8) : Tot (loop (exchangepointlaw21_ResourceJoins_L0 a0 r5 r7 r8) (0 : Int)) (fun x => x = .inr ()) := by
 unfold exchangepointlaw21_ResourceJoins_L0
 generalize hL : ([([r5.1, r7.1] : List api_Resources), ([r7.1, r5.1] : List api_Resources), ([a0, r5.1] : List api_Resources), ([r5.1, r8] : List api_Resources), ([r5.1, r5.1] : List api_Resources)] : List (List api_Resources)) = L
 have h5L : L.length = 5 := by rw [← hL]; rfl
 have hp : ∀ x ∈ L, ∃ p q, x = [p, q] ∧ Raw p ∧ Raw q := by
  rw [← hL]
  intro x hx
  simp only [List.mem_cons, List.not_mem_nil, or_false] at hx
  rcases hx with rfl | rfl | rfl | rfl | rfl
  ·exact ⟨_, _, rfl, h5, h7⟩
  ·exact ⟨_, _, rfl, h7, h5⟩
  ·exact ⟨_, _, rfl, h0, h5⟩
  ·exact ⟨_, _, rfl, h5, h8⟩
  ·exact ⟨_, _, rfl, h5, h5⟩
 clear hL
 refine Tot.rng 5 (fun k (_ : Unit) => ((k : Nat) : Int)) (fun _ _ => True) _ () rfl trivial (fun k _ hk _ => ?_) (fun _ _ => ?_)
 ·have hw : w64 ((k : Int) + 1) = ((k + 1 : Nat) : Int) := by rw [w64_id (by omega) (by omega)]; rfl
  have hkL : k < L.length := by omega
  obtain ⟨p, q, e, hp1, hq1⟩ := hp _ (List.getElem_mem hkL)
  obtain ⟨x, x1, x2, x3, x4⟩ := uni_agree hp1 hq1
  obtain ⟨y, y1, y2, y3, y4⟩ := int_agree hp1 hq1
  obtain ⟨z, z1, z2, z3, z4⟩ := min_agree hp1 hq1
  refine Tot.iteT (decide_eq_true (by omega)) (Tot.bindIdx k rfl hkL ?_)
  rw [e]
  have i0 : idx [p, q] 0 = some p := rfl
  have i1 : idx [p, q] 1 = some q := rfl
  refine Tot.chk (by decide) (Tot.bindOf i0 (Tot.chk (by decide) (Tot.bindOf i1 (Tot.bindOf x1 (Tot.chk (by decide) (Tot.bindOf i0 (Tot.chk (by decide) (Tot.bindOf i1 (Tot.bindOf x2 ?_)))))))))
  refine Tot.chk (by decide) (Tot.bindOf i0 (Tot.chk (by decide) (Tot.bindOf i1 (Tot.bindOf y1 (Tot.chk (by decide) (Tot.bindOf i0 (Tot.chk (by decide) (Tot.bindOf i1 (Tot.bindOf y2 ?_)))))))))
  refine Tot.chk (by decide) (Tot.bindOf i0 (Tot.chk (by decide) (Tot.bindOf i1 (Tot.bindOf z1 (Tot.chk (by decide) (Tot.bindOf i0 (Tot.chk (by decide) (Tot.bindOf i1 (Tot.bindOf z2 ?_)))))))))
  refine Tot.jnR (fun m : Bool => m = false) (fun j hj => ?_) (fun m hm => Tot.iteF hm (Tot.step () (by rw [hw]) trivial))
  refine Tot.bindOf (same_self (a := x.1) (by omega) (by omega)) (Tot.iteF (by simp) (Tot.bindOf (same_self (a := y.1) (by omega) (by omega)) (Tot.iteF (by simp) (Tot.bindOf (same_self (a := z.1) (by omega) (by omega)) (hj _ (by simp))))))
 ·exact Tot.iteF (decide_eq_false (by omega)) (Tot.last rfl)
theorem rcovers_tot {a b : api_Resources} (ha : VRes a) (hb : VRes b) (h1 : a.fAddrs.length ≤ 15) (h2 : a.fASNs.length ≤ 15) (h3 : b.fAddrs.length ≤ 15) (h4 : b.fASNs.length ≤ 15) : Tot (exchangepointref21_Covers a b) (fun c => c = true ↔ (∀ n, cA b n → cA a n) ∧ (∀ n, cS b n → cS a n)) := by
 unfold exchangepointref21_Covers
 obtain ⟨x, e1, e2, _, _⟩ := min_agree (a := b) (b := a) ⟨hb.R, by omega, by omega⟩ ⟨ha.R, by omega, by omega⟩
 obtain ⟨w, e3, W⟩ := min_is (is_self hb (n := 15) (m := 15) h3 h4) (is_self ha (n := 15) (m := 15) h1 h2) (by omega) (by omega)
 have : x = (w, 0) := by rw [e1] at e3; exact Option.some.inj e3
 subst this
 refine Tot.bindOf e2 (Tot.some ?_)
 have k1 : w.fAddrs.length = 0 ↔ ∀ n, cA b n → cA a n := by
  rw [map_nil_iff (f := ivA), nil_iff W.v.va.1]
  constructor
  ·intro h n hn
   by_cases c : cA a n
   ·exact c
   ·exact (h n ((W.a n).2 ⟨hn, c⟩)).elim
  ·intro h n hn
   obtain ⟨g1, g2⟩ := (W.a n).1 hn
   exact g2 (h n g1)
 have k2 : w.fASNs.length = 0 ↔ ∀ n, cS b n → cS a n := by
  rw [map_nil_iff (f := ivS), nil_iff W.v.vs.1]
  constructor
  ·intro h n hn
   by_cases c : cS a n
   ·exact c
   ·exact (h n ((W.s n).2 ⟨hn, c⟩)).elim
  ·intro h n hn
   obtain ⟨g1, g2⟩ := (W.s n).1 hn
   exact g2 (h n g1)
 rw [← k1, ← k2]
 show ((((0 : Int) == 0) && ((w.fAddrs.length : Int) == 0)) && ((w.fASNs.length : Int) == 0)) = true ↔ _
 rw [Bool.and_eq_true, Bool.and_eq_true]
 exact ⟨fun e => ⟨by have := beq_iff_eq.1 e.1.2; omega, by have := beq_iff_eq.1 e.2; omega⟩, fun e => ⟨⟨rfl, beq_iff_eq.2 (by have := e.1; omega)⟩, beq_iff_eq.2 (by have := e.2; omega)⟩⟩
theorem bool_one {b c : Bool} {P : Prop} (h : b = true ↔ P) (k : c = true ↔ P) : (b == c) = true := by
 cases b <;> cases c
 ·rfl
 ·have := h.2 (k.1 rfl); cases this
 ·have := k.2 (h.1 rfl); cases this
 ·rfl
abbrev U64 (x : Int) : Prop := IntKind.u64.min ≤ x ∧ x ≤ IntKind.u64.max
def hA (a : api_Addr) : Prop := True ∧ U64 a.fHi ∧ U64 a.fLo ∧ True
def hG (x : api_Range) : Prop := hA x.fFrom ∧ hA x.fTo ∧ True
def hS (x : api_Span) : Prop := I64 x.fFrom ∧ I64 x.fTo ∧ True
def hRes (x : api_Resources) : Prop := ((∀ y ∈ x.fAddrs, hG y) ∧ x.fAddrs.length ≤ maxLen) ∧ ((∀ y ∈ x.fASNs, hS y) ∧ x.fASNs.length ≤ maxLen) ∧ True
theorem hA_R {a : api_Addr} (h : hA a) : aR a := by
 obtain ⟨_, h1, h2, _⟩ := h
 have e1 : IntKind.u64.min = 0 := rfl
 have e2 : IntKind.u64.max = 18446744073709551615 := rfl
 unfold U64 at h1 h2
 rw [e1, e2] at h1 h2
 unfold aR
 omega
theorem joins_law (a0 : api_Resources) (h0 : hRes a0) (a1 : List Int) (h1 : (∀ y ∈ a1, I64 y) ∧ a1.length ≤ maxLen) (a2 : List Int) (h2 : (∀ y ∈ a2, I64 y) ∧ a2.length ≤ maxLen) (a3 : Int) (_ : I64 a3) (a4 : Int) (_ : I64 a4) : exchangepointlaw21_ResourceJoins a0 a1 a2 a3 a4 = some true := by
 refine Tot.eq ?_
 unfold maxLen at h1 h2
 unfold exchangepointlaw21_ResourceJoins
 refine Tot.bindOf (show exchangepointlaw21_light a0 = some _ from rfl) (Tot.ite (fun _ => Tot.bindOf awake_eq (Tot.some rfl)) (fun hc => ?_))
 simp only [Bool.not_eq_false', Bool.and_eq_true, decide_eq_true_eq] at hc
 have R0 : Raw a0 := ⟨fun x hx => ⟨hA_R (h0.1.1 x hx).1, hA_R (h0.1.1 x hx).2.1⟩, by omega, by omega⟩
 refine Tot.bindOf (show exchangepointmake_New a1 = some ⟨a1, 0⟩ from rfl) (Tot.bindT (dres_tot _ (new_ok a1 (by omega))) fun r5 hr5 => ?_)
 refine Tot.bindOf (show exchangepointmake_New a2 = some ⟨a2, 0⟩ from rfl) (Tot.bindT (dres_tot _ (new_ok a2 (by omega))) fun r7 hr7 => ?_)
 obtain ⟨⟨v5, n5, m5⟩, _⟩ := hr5
 obtain ⟨⟨v7, n7, m7⟩, _⟩ := hr7
 refine Tot.bindT (bent_tot v7 a3 a4) fun b hb => Tot.bindT (joins_L0 R0 ⟨v5.R, by omega, by omega⟩ ⟨v7.R, by omega, by omega⟩ ⟨hb.1, by omega, by omega⟩) ?_
 rintro _ rfl
 refine Tot.jnR (fun m : Bool => m = true) (fun j hj => ?_) (fun m hm => Tot.some hm)
 refine Tot.bindT (covers_tot v5 v7) fun c hc => Tot.bindT (rcovers_tot v5 v7 (by omega) (by omega) (by omega) (by omega)) fun d hd => Tot.iteT (bool_one hc hd) ?_
 refine Tot.bindT (covers_tot v7 v5) fun c hc => Tot.bindT (rcovers_tot v7 v5 (by omega) (by omega) (by omega) (by omega)) fun d hd => Tot.iteT (bool_one hc hd) ?_
 refine Tot.bindT (covers_tot v5 v5) fun c hc => Tot.iteT (hc.2 ⟨fun _ h => h, fun _ h => h⟩) (Tot.bindOf awake_eq (hj _ rfl))
end Go.Proofs.YtgcilleccigmdaaGreatDoor
