/- The code's normal form and Of; when resources are the same: in plain Lean. -/
import Derived.Test.YtgcilleccigmdaaGreatDoorPureO
namespace Go.Proofs.YtgcilleccigmdaaGreatDoor
open Go Go.Vc
def AVp (l : List api_Addr_) : Prop := ∀ x ∈ l, aV x.ffrom ∧ aV x.fto ∧ x.ffrom.fV6 = x.fto.fV6
def SVp (l : List resource_part_int_) : Prop := ∀ x ∈ l, okN x.ffrom x.fto
theorem far_iff {a b : api_Addr} (ha : aV a) (hb : aV b) : (0 < cmpA b a ∧ ¬ ((NextF a).2 = true ∧ cmpA (NextF a).1 b = 0)) ↔ rk a + 1 < rk b := by
 rw [cmpA_pos hb ha]
 cases h : (NextF a).2
 ·have := next_none ha hb h
  constructor
  ·rintro ⟨h1, _⟩; omega
  ·intro h1; exact ⟨by omega, fun e => by cases e.1⟩
 ·obtain ⟨n1, n2, _⟩ := next_rk h
  rw [cmpA_zero n1 hb]
  constructor
  ·rintro ⟨h1, h2⟩
   have : ¬ rk (NextF a).1 = rk b := fun e => h2 ⟨rfl, e⟩
   omega
  ·intro h1; exact ⟨by omega, fun e => by have := e.2; omega⟩
theorem nrm_loop {s r1 : List api_Addr_} (hv : AVp s) (hk : okI (s.map ivP)) (hs : s.Pairwise fun x y => rk x.ffrom ≤ rk y.ffrom) (hl : s.length ≤ 1000000) (hlen1 : r1.length = s.length) :
  Tot (loop (resource_order_normal_L0 r1 s) ((0 : Int), ([] : List api_Addr_))) (fun out => AVp out ∧ out.map ivP = mergeL (s.map ivP) ∧ out.length ≤ s.length) := by
 refine Tot.rng s.length (fun k (b : List api_Addr_) => (((k : Nat) : Int), b)) (fun k b => AVp b ∧ b.map ivP = mergeL ((s.map ivP).take k) ∧ b.length ≤ k) _ [] rfl ⟨fun x hx => (by cases hx), by simp [mergeL], Nat.le_refl _⟩ (fun k b hk2 hb => ?_) (fun b hb => ?_)
 ·obtain ⟨b1, b2, b3⟩ := hb
  have hw : w64 ((k : Int) + 1) = ((k + 1 : Nat) : Int) := by rw [w64_id (by omega) (by omega)]; rfl
  have hx := hv _ (List.getElem_mem hk2)
  have hkm : k < (s.map ivP).length := by simpa using hk2
  have hgk : (s.map ivP)[k] = ivP s[k] := by simp
  have hms : mergeL ((s.map ivP).take (k + 1)) = mstep (b.map ivP) (ivP s[k]) := by rw [take_snoc hkm, mergeL_snoc, ← b2, hgk]
  unfold resource_order_normal_L0
  refine Tot.iteT (by rw [hlen1]; simpa using hk2) (Tot.jnR (fun m : List api_Addr_ => AVp m ∧ m.map ivP = mergeL ((s.map ivP).take (k + 1)) ∧ m.length ≤ k + 1) (fun j hj => ?_) (fun m hm => Tot.step m (by rw [hw]) hm))
  rw [hms] at hj
  have app : AVp (b ++ [s[k]]) := fun y hy => by
   rcases List.mem_append.1 hy with hy | hy
   ·exact b1 y hy
   ·rw [List.mem_singleton.1 hy]; exact hx
  refine Tot.bindIdx k rfl hk2 (Tot.bindIdx k rfl hk2 ?_)
  rcases List.eq_nil_or_concat b with e | ⟨a, t, e⟩
  ·subst e
   exact Tot.iteT (decide_eq_true (show w64 (((0 : Nat) : Int) - 1) < 0 by rw [w64_id (by omega) (by omega)]; omega)) (Tot.chk (limB (by simp)) (hj _ ⟨app, rfl, by simp⟩))
  ·rw [List.concat_eq_append] at e
   subst e
   have ht := b1 t (by simp)
   have hlen : (a ++ [t]).length = a.length + 1 := by simp
   have hget : (a ++ [t])[a.length]'(by simp) = t := by simp
   have hle : rk t.ffrom ≤ rk s[k].ffrom := by
    have hok : okI ((s.map ivP).take k) := fun y hy => hk y (List.mem_of_mem_take hy)
    have hsr : ((s.map ivP).take k).Pairwise (fun x y => x.1 ≤ y.1) := by
     rw [← List.map_take, List.pairwise_map]
     exact hs.sublist (List.take_sublist _ _)
    have h3 := (merge_ok _ hok hsr).2.2 (ivP t) (by rw [← b2]; simp)
    obtain ⟨y, hy, e⟩ := h3
    rw [← List.map_take] at hy
    obtain ⟨z, hz, rfl⟩ := List.mem_map.1 hy
    obtain ⟨i, hi, rfl⟩ := List.mem_take_iff_getElem.1 hz
    have := List.pairwise_iff_getElem.1 hs i k (by omega) hk2 (by omega)
    show (ivP t).1 ≤ _
    rw [e]
    exact this
   have hmm : mstep ((a ++ [t]).map ivP) (ivP s[k]) = if rk t.fto + 1 < rk s[k].ffrom then a.map ivP ++ [ivP t] ++ [ivP s[k]] else if rk t.fto < rk s[k].fto then a.map ivP ++ [(rk t.ffrom, rk s[k].fto)] else a.map ivP ++ [ivP t] := by
    rw [List.map_append]
    exact mstep_snoc (a.map ivP) (ivP t) (ivP s[k])
   rw [hlen, w64_id (n := ((a.length + 1 : Nat) : Int) - 1) (by omega) (by omega)]
   refine Tot.iteF (decide_eq_false (by omega)) (Tot.bindIdx a.length (by omega) (by simp) (Tot.bindIdx a.length (by omega) (by simp) ?_))
   rw [hget]
   refine Tot.bindOf (anext_eq ht.2.1) (Tot.jnR (fun m : Bool => m = true ↔ rk t.fto + 1 < rk s[k].ffrom) (fun j3 hj3 => ?_) (fun m hm => Tot.ite (fun h => Tot.chk (limB (by simp; omega)) (hj _ ⟨app, ?_, by simp; omega⟩)) (fun h => ?_)))
   ·refine Tot.bindIdx a.length (by omega) (by simp) (Tot.bindIdx a.length (by omega) (by simp) ?_)
    rw [hget]
    have fi := far_iff ht.2.1 hx.1
    refine Tot.bindOf (acmp_eq hx.1.1 ht.2.1.1) (Tot.ite (fun h => ?_) (fun h => hj3 _ ⟨fun e => (by cases e), fun e => (of_decide_eq_false h (fi.2 e).1).elim⟩))
    have h := of_decide_eq_true h
    refine Tot.ite (fun h2 => Tot.bindOf (acmp_eq (next_rk h2).1.1 hx.1.1) (hj3 _ ?_)) (fun h2 => hj3 _ ?_)
    ·rw [← fi, Bool.not_eq_true', beq_eq_false_iff_ne]
     exact ⟨fun e => ⟨h, fun e2 => e e2.2⟩, fun e e2 => e.2 ⟨h2, e2⟩⟩
    ·rw [← fi]
     exact ⟨fun _ => ⟨h, fun e => by rw [e.1] at h2; cases h2⟩, fun _ => rfl⟩
   ·rw [hmm, if_pos (hm.1 h), List.map_append, List.map_append]; rfl
   ·have c1 : ¬ rk t.fto + 1 < rk s[k].ffrom := fun e => by rw [hm.2 e] at h; cases h
    refine Tot.bindIdx a.length (by omega) (by simp) (Tot.bindIdx a.length (by omega) (by simp) ?_)
    rw [hget]
    refine Tot.bindOf (acmp_eq hx.2.1.1 ht.2.1.1) (Tot.ite (fun h2 => ?_) (fun h2 => hj _ ?_))
    ·have c2 := (cmpA_pos hx.2.1 ht.2.1).1 (of_decide_eq_true h2)
     refine Tot.bindIdx a.length (by omega) (by simp) (Tot.bindIdx a.length (by omega) (by simp) ?_)
     rw [hget]
     have hset : (a ++ [t]).set (((a.length + 1 : Nat) : Int) - 1).toNat (api_Addr_.mk t.ffrom s[k].fto) = a ++ [api_Addr_.mk t.ffrom s[k].fto] := by
      have : (((a.length + 1 : Nat) : Int) - 1).toNat = a.length := by omega
      rw [this, List.set_append_right _ _ (Nat.le_refl _), Nat.sub_self]; rfl
     rw [hset]
     have hfam : t.fto.fV6 = s[k].ffrom.fV6 := ((touch_iff (t := api_Range.mk t.ffrom t.fto) (x := api_Range.mk s[k].ffrom s[k].fto) ht hx.1 hle).2 c1).1
     refine hj _ ⟨fun y hy => ?_, ?_, by simp; omega⟩
     ·rcases List.mem_append.1 hy with hy | hy
      ·exact b1 y (List.mem_append_left _ hy)
      ·rw [List.mem_singleton.1 hy]
       exact ⟨ht.1, hx.2.1, (ht.2.2.trans hfam).trans hx.2.2⟩
     ·rw [hmm, if_neg c1, if_pos c2, List.map_append]; rfl
    ·have c2 : ¬ rk t.fto < rk s[k].fto := fun e => of_decide_eq_false h2 ((cmpA_pos hx.2.1 ht.2.1).2 e)
     refine ⟨b1, ?_, Nat.le_succ_of_le b3⟩
     rw [hmm, if_neg c1, if_neg c2, List.map_append]; rfl
 ·unfold resource_order_normal_L0
  refine Tot.iteF (by rw [hlen1]; simp) (Tot.last ?_)
  rw [List.take_of_length_le (by simp)] at hb
  exact hb
theorem nrm_tot {l : List api_Addr_} (hv : AVp l) (hk : okI (l.map ivP)) (hl : l.length ≤ 1000000) : Tot (resource_order_normal l) (fun r => AVp r ∧ VL (r.map ivP) ∧ (∀ n, inI n (r.map ivP) ↔ inI n (l.map ivP)) ∧ r.length ≤ l.length) := by
 unfold resource_order_normal
 refine Tot.bindOf (show ext57_slices_Clone_R l = some l from chk_of (limB (by omega)) rfl) ?_
 obtain ⟨s, e, s1, s2⟩ := sortF_tot (xs := l) (cmp := fun x y => resource_order_normal_1 x y) (fun x y => cmpA x.ffrom y.ffrom) (fun x hx y hy => bind_of (acmp_eq (hv x hx).1.1 (hv y hy).1.1) rfl)
  (fun x hx => by rw [cmpA_lt (hv x hx).1 (hv x hx).1]; omega)
  (fun x hx y hy z hz => by rw [cmpA_lt (hv x hx).1 (hv y hy).1, cmpA_lt (hv y hy).1 (hv z hz).1, cmpA_lt (hv x hx).1 (hv z hz).1]; omega)
  (fun x hx y hy z hz => by rw [cmpA_lt (hv x hx).1 (hv y hy).1, cmpA_lt (hv y hy).1 (hv z hz).1, cmpA_lt (hv x hx).1 (hv z hz).1]; omega) (by omega)
 have hsl := s1.length_eq
 have sv : AVp s := fun y hy => hv y (s1.mem_iff.1 hy)
 have sk : okI (s.map ivP) := fun y hy => hk y ((s1.map ivP).mem_iff.1 hy)
 have ss : s.Pairwise fun x y => rk x.ffrom ≤ rk y.ffrom := s2.imp_of_mem fun {a b} ha hb h => by
  rw [cmpA_lt (sv b hb).1 (sv a ha).1] at h
  omega
 refine Tot.bindOf (show ext58_slices_SortFunc_resource_order_normal_1 l = some s from e) (Tot.chk (by simp [hsl]) (Tot.bindT (nrm_loop sv sk ss (by omega) (by omega)) fun r hr => Tot.some ?_))
 obtain ⟨r1, r2, r3⟩ := hr
 have hm := merge_ok (s.map ivP) sk (by rw [List.pairwise_map]; exact ss)
 rw [← r2] at hm
 exact ⟨r1, hm.1, fun n => (hm.2.1 n).trans (inI_perm (s1.map ivP) n), by omega⟩
theorem cmp_I {x y : Int} : cmp_Compare x y = some (if x < y then -1 else if y < x then 1 else 0) := compare_eq x y
theorem nrm2_loop {s r1 : List resource_part_int_} (hv : SVp s) (hs : s.Pairwise fun x y => x.ffrom ≤ y.ffrom) (hl : s.length ≤ 1000000) (hlen1 : r1.length = s.length) :
  Tot (loop (resource_order_normal_2_L0 r1 s) ((0 : Int), ([] : List resource_part_int_))) (fun out => SVp out ∧ out.map ivI = mergeL (s.map ivI) ∧ out.length ≤ s.length) := by
 refine Tot.rng s.length (fun k (b : List resource_part_int_) => (((k : Nat) : Int), b)) (fun k b => SVp b ∧ b.map ivI = mergeL ((s.map ivI).take k) ∧ b.length ≤ k) _ [] rfl ⟨fun x hx => (by cases hx), by simp [mergeL], Nat.le_refl _⟩ (fun k b hk2 hb => ?_) (fun b hb => ?_)
 ·obtain ⟨b1, b2, b3⟩ := hb
  have hw : w64 ((k : Int) + 1) = ((k + 1 : Nat) : Int) := by rw [w64_id (by omega) (by omega)]; rfl
  have hx := hv _ (List.getElem_mem hk2)
  obtain ⟨x0, x1, x2⟩ := hx
  have hkm : k < (s.map ivI).length := by simpa using hk2
  have hgk : (s.map ivI)[k] = ivI s[k] := by simp
  have hms : mergeL ((s.map ivI).take (k + 1)) = mstep (b.map ivI) (ivI s[k]) := by rw [take_snoc hkm, mergeL_snoc, ← b2, hgk]
  unfold resource_order_normal_2_L0
  refine Tot.iteT (by rw [hlen1]; simpa using hk2) (Tot.jnR (fun m : List resource_part_int_ => SVp m ∧ m.map ivI = mergeL ((s.map ivI).take (k + 1)) ∧ m.length ≤ k + 1) (fun j hj => ?_) (fun m hm => Tot.step m (by rw [hw]) hm))
  rw [hms] at hj
  have app : SVp (b ++ [s[k]]) := fun y hy => by
   rcases List.mem_append.1 hy with hy | hy
   ·exact b1 y hy
   ·rw [List.mem_singleton.1 hy]; exact ⟨x0, x1, x2⟩
  refine Tot.bindIdx k rfl hk2 (Tot.bindIdx k rfl hk2 ?_)
  rcases List.eq_nil_or_concat b with e | ⟨a, t, e⟩
  ·subst e
   exact Tot.iteT (decide_eq_true (show w64 (((0 : Nat) : Int) - 1) < 0 by rw [w64_id (by omega) (by omega)]; omega)) (Tot.chk (limB (by simp)) (hj _ ⟨app, rfl, by simp⟩))
  ·rw [List.concat_eq_append] at e
   subst e
   obtain ⟨t0, t1, t2⟩ := b1 t (by simp)
   have hlen : (a ++ [t]).length = a.length + 1 := by simp
   have hget : (a ++ [t])[a.length]'(by simp) = t := by simp
   have hmm : mstep ((a ++ [t]).map ivI) (ivI s[k]) = if t.fto.toNat + 1 < s[k].ffrom.toNat then a.map ivI ++ [ivI t] ++ [ivI s[k]] else if t.fto.toNat < s[k].fto.toNat then a.map ivI ++ [(t.ffrom.toNat, s[k].fto.toNat)] else a.map ivI ++ [ivI t] := by
    rw [List.map_append]
    exact mstep_snoc (a.map ivI) (ivI t) (ivI s[k])
   rw [hlen, w64_id (n := ((a.length + 1 : Nat) : Int) - 1) (by omega) (by omega)]
   refine Tot.iteF (decide_eq_false (by omega)) (Tot.bindIdx a.length (by omega) (by simp) (Tot.bindIdx a.length (by omega) (by simp) ?_))
   rw [hget]
   refine Tot.bindOf (show resource_numbers_1 t.fto = some (t.fto + 1, decide (t.fto < 4294967295)) from by unfold resource_numbers_1; rw [w64_id (n := t.fto + 1) (by omega) (by omega)]) (Tot.jnR (fun m : Bool => m = true ↔ t.fto + 1 < s[k].ffrom) (fun j3 hj3 => ?_) (fun m hm => Tot.ite (fun h => Tot.chk (limB (by simp; omega)) (hj _ ⟨app, ?_, by simp; omega⟩)) (fun h => ?_)))
   ·refine Tot.bindIdx a.length (by omega) (by simp) (Tot.bindIdx a.length (by omega) (by simp) ?_)
    rw [hget]
    refine Tot.bindOf cmp_I (Tot.ite (fun h => ?_) (fun h => hj3 _ ⟨fun e => (by cases e), fun e => (of_decide_eq_false h ?_).elim⟩))
    ·have h := of_decide_eq_true h
     have h : t.fto < s[k].ffrom := by split at h; omega; split at h; assumption; omega
     refine Tot.ite (fun h2 => Tot.bindOf cmp_I (hj3 _ ?_)) (fun h2 => hj3 _ ?_)
     ·rw [Bool.not_eq_true', beq_eq_false_iff_ne]
      constructor
      ·intro e
       by_cases c : t.fto + 1 = s[k].ffrom
       ·exact (e (by rw [if_neg (by omega), if_neg (by omega)])).elim
       ·omega
      ·intro e e2
       rw [if_pos e] at e2
       cases e2
     ·have := of_decide_eq_false h2
      exact ⟨fun _ => by omega, fun _ => rfl⟩
    ·rw [if_neg (by omega), if_pos (by omega)]; omega
   ·have := hm.1 h
    rw [hmm, if_pos (by omega), List.map_append, List.map_append]; rfl
   ·have c1 : ¬ t.fto + 1 < s[k].ffrom := fun e => by rw [hm.2 e] at h; cases h
    refine Tot.bindIdx a.length (by omega) (by simp) (Tot.bindIdx a.length (by omega) (by simp) ?_)
    rw [hget]
    refine Tot.bindOf cmp_I (Tot.ite (fun h2 => ?_) (fun h2 => hj _ ?_))
    ·have h2 := of_decide_eq_true h2
     have c2 : t.fto < s[k].fto := by split at h2; omega; split at h2; assumption; omega
     refine Tot.bindIdx a.length (by omega) (by simp) (Tot.bindIdx a.length (by omega) (by simp) ?_)
     rw [hget]
     have hset : (a ++ [t]).set (((a.length + 1 : Nat) : Int) - 1).toNat (resource_part_int_.mk t.ffrom s[k].fto) = a ++ [resource_part_int_.mk t.ffrom s[k].fto] := by
      have : (((a.length + 1 : Nat) : Int) - 1).toNat = a.length := by omega
      rw [this, List.set_append_right _ _ (Nat.le_refl _), Nat.sub_self]; rfl
     rw [hset]
     refine hj _ ⟨fun y hy => ?_, ?_, by simp; omega⟩
     ·rcases List.mem_append.1 hy with hy | hy
      ·exact b1 y (List.mem_append_left _ hy)
      ·rw [List.mem_singleton.1 hy]
       exact ⟨t0, by simp only; omega, x2⟩
     ·rw [hmm, if_neg (by omega), if_pos (by omega), List.map_append]; rfl
    ·have h2 := of_decide_eq_false h2
     have c2 : ¬ t.fto < s[k].fto := fun e => h2 (by rw [if_neg (by omega), if_pos e]; omega)
     refine ⟨b1, ?_, Nat.le_succ_of_le b3⟩
     rw [hmm, if_neg (by omega), if_neg (by omega), List.map_append]; rfl
 ·unfold resource_order_normal_2_L0
  refine Tot.iteF (by rw [hlen1]; simp) (Tot.last ?_)
  rw [List.take_of_length_le (by simp)] at hb
  exact hb
theorem lt_I {x y : Int} : (if x < y then (-1 : Int) else if y < x then 1 else 0) < 0 ↔ x < y := by
 split
 ·exact ⟨fun _ => by assumption, fun _ => by omega⟩
 ·split
  ·exact ⟨fun h => by omega, fun h => by omega⟩
  ·exact ⟨fun h => by omega, fun h => by omega⟩
theorem okI_S {l : List resource_part_int_} (hv : SVp l) : okI (l.map ivI) := fun y hy => by
 obtain ⟨z, hz, rfl⟩ := List.mem_map.1 hy
 obtain ⟨z0, z1, z2⟩ := hv z hz
 unfold ivI
 simp only
 omega
theorem nrm2_tot {l : List resource_part_int_} (hv : SVp l) (hl : l.length ≤ 1000000) : Tot (resource_order_normal_2 l) (fun r => SVp r ∧ VL (r.map ivI) ∧ (∀ n, inI n (r.map ivI) ↔ inI n (l.map ivI)) ∧ r.length ≤ l.length) := by
 unfold resource_order_normal_2
 refine Tot.bindOf (show ext60_slices_Clone_R l = some l from chk_of (limB (by omega)) rfl) ?_
 obtain ⟨s, e, s1, s2⟩ := sortF_tot (xs := l) (cmp := fun x y => resource_order_normal_1_2 x y) (fun x y => if x.ffrom < y.ffrom then (-1 : Int) else if y.ffrom < x.ffrom then 1 else 0) (fun x hx y hy => bind_of cmp_I rfl)
  (fun x hx => by rw [lt_I]; omega)
  (fun x hx y hy z hz => by rw [lt_I, lt_I, lt_I]; omega)
  (fun x hx y hy z hz => by rw [lt_I, lt_I, lt_I]; omega) (by omega)
 have hsl := s1.length_eq
 have sv : SVp s := fun y hy => hv y (s1.mem_iff.1 hy)
 have ss : s.Pairwise fun x y => x.ffrom ≤ y.ffrom := s2.imp fun {a b} h => by
  rw [lt_I] at h
  omega
 refine Tot.bindOf (show ext61_slices_SortFunc_resource_order_normal_1_2 l = some s from e) (Tot.chk (by simp [hsl]) (Tot.bindT (nrm2_loop sv ss (by omega) (by omega)) fun r hr => Tot.some ?_))
 obtain ⟨r1, r2, r3⟩ := hr
 have hm := merge_ok (s.map ivI) (okI_S sv) (by
  rw [List.pairwise_map]
  refine ss.imp_of_mem fun {a b} ha hb h => ?_
  obtain ⟨z0, z1, z2⟩ := sv a ha
  unfold ivI
  simp only
  omega)
 rw [← r2] at hm
 exact ⟨r1, hm.1, fun n => (hm.2.1 n).trans (inI_perm (s1.map ivI) n), by omega⟩
def aP (x : api_Addr_) : api_Range := api_Range.mk x.ffrom x.fto
def aS (x : resource_part_int_) : api_Span := api_Span.mk x.ffrom x.fto
theorem map_one {α β : Type} {f : α → β} : ∀ {l m : List α}, l.map f = m.map f → (∀ x ∈ l, ∀ y ∈ m, f x = f y → x = y) → l = m
 | [], [], _, _ => rfl
 | [], _ :: _, h, _ => by simp at h
 | _ :: _, [], h, _ => by simp at h
 | x :: l, y :: m, h, k => by
  simp only [List.map_cons, List.cons.injEq] at h
  rw [k x (List.mem_cons_self ..) y (List.mem_cons_self ..) h.1, map_one h.2 fun a ha b hb => k a (List.mem_cons_of_mem _ ha) b (List.mem_cons_of_mem _ hb)]
theorem ivA_inj {l m : List api_Range} (hl : AVr l) (hm : AVr m) (h : l.map ivA = m.map ivA) : l = m := by
 refine map_one h fun x hx y hy e => ?_
 obtain ⟨x1, x2, _⟩ := hl x hx
 obtain ⟨y1, y2, _⟩ := hm y hy
 have e1 := rk_inj x1 y1 (congrArg Prod.fst e)
 have e2 := rk_inj x2 y2 (congrArg Prod.snd e)
 obtain ⟨a, b⟩ := x
 obtain ⟨c, d⟩ := y
 simp only at e1 e2
 rw [e1, e2]
theorem ivS_inj {l m : List api_Span} (hl : SVr l) (hm : SVr m) (h : l.map ivS = m.map ivS) : l = m := by
 refine map_one h fun x hx y hy e => ?_
 obtain ⟨x1, x2, _⟩ := hl x hx
 obtain ⟨y1, y2, _⟩ := hm y hy
 have e1 : x.fFrom.toNat = y.fFrom.toNat := congrArg Prod.fst e
 have e2 : x.fTo.toNat = y.fTo.toNat := congrArg Prod.snd e
 obtain ⟨a, b⟩ := x
 obtain ⟨c, d⟩ := y
 simp only at e1 e2 x1 x2 y1 y2
 congr 1 <;> omega
theorem addrs_one {l m : List api_Range} (hl : AVr l) (hm : AVr m) (vl : VL (l.map ivA)) (vm : VL (m.map ivA)) (h : ∀ n, inI n (l.map ivA) ↔ inI n (m.map ivA)) : l = m := ivA_inj hl hm (VL.uniq vl vm h)
theorem spans_one {l m : List api_Span} (hl : SVr l) (hm : SVr m) (vl : VL (l.map ivS)) (vm : VL (m.map ivS)) (h : ∀ n, inI n (l.map ivS) ↔ inI n (m.map ivS)) : l = m := ivS_inj hl hm (VL.uniq vl vm h)
theorem res_eq (s : resource_set) (h1 : s.faddrs.length ≤ 1000000000) (h2 : s.fasns.length ≤ 1000000000) : resource_set_resources s = some (LimF (s.faddrs.map aP) (s.fasns.map aS)) := by
 refine Tot.eq ?_
 unfold resource_set_resources LimF
 rw [List.length_map, List.length_map]
 refine Tot.ite (fun h => Tot.some ?_) (fun h => ?_)
 ·simp only [Bool.or_eq_true, decide_eq_true_eq] at h
  rw [if_pos (by omega)]
  rfl
 ·simp only [Bool.or_eq_false_iff, decide_eq_false_iff_not] at h
  rw [if_neg (by omega)]
  refine Tot.bindRng s.faddrs.length (fun k (_ : Unit) => (((k : Nat) : Int), (s.faddrs.take k).map aP)) (fun _ _ => True) (fun l => l = s.faddrs.map aP) () (by simp) trivial (fun k b hk hb => ?_) (fun b hb => ?_) (fun l hl => ?_)
  ·have hw : w64 ((k : Int) + 1) = ((k + 1 : Nat) : Int) := by rw [w64_id (by omega) (by omega)]; rfl
   unfold resource_set_resources_L0
   refine Tot.iteT (by simpa using hk) (Tot.bindIdx k rfl hk (Tot.chk (limB (by simp; omega)) (Tot.step () ?_ trivial)))
   rw [hw, take_snoc hk, List.map_append]; rfl
  ·unfold resource_set_resources_L0
   refine Tot.iteF (by simp) (Tot.last ?_)
   rw [List.take_length]
  subst hl
  refine Tot.bindRng s.fasns.length (fun k (_ : Unit) => (((k : Nat) : Int), (s.fasns.take k).map aS)) (fun _ _ => True) (fun l => l = s.fasns.map aS) () (by simp) trivial (fun k b hk hb => ?_) (fun b hb => ?_) (fun l hl => ?_)
  ·have hw : w64 ((k : Int) + 1) = ((k + 1 : Nat) : Int) := by rw [w64_id (by omega) (by omega)]; rfl
   unfold resource_set_resources_L1
   refine Tot.iteT (by simpa using hk) (Tot.bindIdx k rfl hk (Tot.chk (limB (by simp; omega)) (Tot.step () ?_ trivial)))
   rw [hw, take_snoc hk, List.map_append]; rfl
  ·unfold resource_set_resources_L1
   refine Tot.iteF (by simp) (Tot.last ?_)
   rw [List.take_length]
  subst hl
  exact Tot.some rfl
theorem avp_r {l : List api_Range} (h : AVr l) : AVp (l.map paA) := fun x hx => by
 obtain ⟨y, hy, rfl⟩ := List.mem_map.1 hx
 exact h y hy
theorem svp_r {l : List api_Span} (h : SVr l) : SVp (l.map paS) := fun x hx => by
 obtain ⟨y, hy, rfl⟩ := List.mem_map.1 hx
 exact h y hy
theorem avr_p {l : List api_Addr_} (h : AVp l) : AVr (l.map aP) := fun x hx => by
 obtain ⟨y, hy, rfl⟩ := List.mem_map.1 hx
 exact h y hy
theorem svr_p {l : List resource_part_int_} (h : SVp l) : SVr (l.map aS) := fun x hx => by
 obtain ⟨y, hy, rfl⟩ := List.mem_map.1 hx
 exact h y hy
theorem map_paA (l : List api_Range) : (l.map paA).map ivP = l.map ivA := by rw [List.map_map]; rfl
theorem map_paS (l : List api_Span) : (l.map paS).map ivI = l.map ivS := by rw [List.map_map]; rfl
theorem map_aP (l : List api_Addr_) : (l.map aP).map ivA = l.map ivP := by rw [List.map_map]; rfl
theorem map_aS (l : List resource_part_int_) : (l.map aS).map ivS = l.map ivI := by rw [List.map_map]; rfl
theorem same_tot {a b : api_Resources} (h1 : a.fAddrs.length ≤ 1000000) (h2 : a.fASNs.length ≤ 1000000) : Tot (exchangepointref21_Same a b) (fun c => c = true ↔ a = b) := by
 unfold exchangepointref21_Same
 refine Tot.ite (fun h => Tot.some ⟨fun e => (by cases e), fun e => ?_⟩) (fun h => ?_)
 ·subst e
  simp at h
 ·simp only [Bool.or_eq_false_iff, bne_eq_false_iff_eq] at h
  have l1 : a.fAddrs.length = b.fAddrs.length := by omega
  have l2 : a.fASNs.length = b.fASNs.length := by omega
  have hae : ∀ x y : api_Addr, ((x.fV6 == y.fV6) && ((x.fHi == y.fHi) && ((x.fLo == y.fLo) && true))) = aeq x y := fun _ _ => rfl
  refine Tot.bindRng a.fAddrs.length (fun k (_ : Unit) => ((k : Nat) : Int)) (fun k _ => a.fAddrs.take k = b.fAddrs.take k) (fun x => match x with | .inl _ => ¬ a = b | .inr _ => a.fAddrs = b.fAddrs) () rfl (by simp) (fun k u hk hb => ?_) (fun u hb => ?_) (fun x hx => ?_)
  ·have hw : w64 ((k : Int) + 1) = ((k + 1 : Nat) : Int) := by rw [w64_id (by omega) (by omega)]; rfl
   have hk2 : k < b.fAddrs.length := by omega
   unfold exchangepointref21_Same_L0
   refine Tot.iteT (by simpa using hk) (Tot.bindIdx k rfl hk (Tot.bindIdx k rfl hk2 ?_))
   rw [hae, hae]
   refine Tot.ite (fun h => Tot.stop fun e => ?_) (fun h => Tot.step () (by rw [hw]) ?_)
   ·subst e
    have := aeq_iff.2 (rfl : a.fAddrs[k].fFrom = a.fAddrs[k].fFrom)
    have := aeq_iff.2 (rfl : a.fAddrs[k].fTo = a.fAddrs[k].fTo)
    simp_all
   ·simp only [Bool.not_eq_false', Bool.and_true, Bool.and_eq_true] at h
    obtain ⟨e1, e2⟩ := h
    have e1 := aeq_iff.1 e1
    have e2 := aeq_iff.1 e2
    have : a.fAddrs[k] = b.fAddrs[k] := by
     generalize a.fAddrs[k] = x at e1 e2
     generalize b.fAddrs[k] = y at e1 e2
     obtain ⟨x1, x2⟩ := x
     obtain ⟨y1, y2⟩ := y
     simp only at e1 e2
     rw [e1, e2]
    rw [take_snoc hk, take_snoc hk2, hb, this]
  ·unfold exchangepointref21_Same_L0
   refine Tot.iteF (by simp) (Tot.last ?_)
   rw [List.take_length, l1, List.take_length] at hb
   exact hb
  cases x with
  | inl _ => exact Tot.some ⟨fun e => (by cases e), fun e => (hx e).elim⟩
  | inr _ =>
   have hx : a.fAddrs = b.fAddrs := hx
   refine Tot.bindRng a.fASNs.length (fun k (_ : Unit) => ((k : Nat) : Int)) (fun k _ => a.fASNs.take k = b.fASNs.take k) (fun x => match x with | .inl _ => ¬ a = b | .inr _ => a.fASNs = b.fASNs) () rfl (by simp) (fun k u hk hb => ?_) (fun u hb => ?_) (fun x hx2 => ?_)
   ·have hw : w64 ((k : Int) + 1) = ((k + 1 : Nat) : Int) := by rw [w64_id (by omega) (by omega)]; rfl
    have hk2 : k < b.fASNs.length := by omega
    unfold exchangepointref21_Same_L1
    refine Tot.iteT (by simpa using hk) (Tot.bindIdx k rfl hk (Tot.bindIdx k rfl hk2 (Tot.ite (fun h => Tot.stop fun e => ?_) (fun h => Tot.step () (by rw [hw]) ?_))))
    ·subst e
     simp at h
    ·simp only [Bool.not_eq_false', Bool.and_true, Bool.and_eq_true, beq_iff_eq] at h
     obtain ⟨e1, e2⟩ := h
     have : a.fASNs[k] = b.fASNs[k] := by
      generalize a.fASNs[k] = x at e1 e2
      generalize b.fASNs[k] = y at e1 e2
      obtain ⟨x1, x2⟩ := x
      obtain ⟨y1, y2⟩ := y
      simp only at e1 e2
      rw [e1, e2]
     rw [take_snoc hk, take_snoc hk2, hb, this]
   ·unfold exchangepointref21_Same_L1
    refine Tot.iteF (by simp) (Tot.last ?_)
    rw [List.take_length, l2, List.take_length] at hb
    exact hb
   cases x with
   | inl _ => exact Tot.some ⟨fun e => (by cases e), fun e => (hx2 e).elim⟩
   | inr _ =>
    have hx2 : a.fASNs = b.fASNs := hx2
    refine Tot.some ⟨fun _ => ?_, fun _ => rfl⟩
    obtain ⟨x1, x2⟩ := a
    obtain ⟨y1, y2⟩ := b
    simp only at hx hx2
    rw [hx, hx2]
theorem same_self {a : api_Resources} (h1 : a.fAddrs.length ≤ 1000000) (h2 : a.fASNs.length ≤ 1000000) : exchangepointref21_Same a a = some true := by
 obtain ⟨c, e, h⟩ := same_tot (b := a) h1 h2
 rw [e, h.2 rfl]
end Go.Proofs.YtgcilleccigmdaaGreatDoor
