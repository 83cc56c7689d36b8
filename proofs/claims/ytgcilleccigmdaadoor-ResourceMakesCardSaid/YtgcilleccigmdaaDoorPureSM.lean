/- The code's Of, and when resources are the same, in plain Lean. -/
import Derived.Test.YtgcilleccigmdaaDoorPureSN
namespace Go.Proofs.YtgcilleccigmdaaDoor
open Go Go.Vc

def aP (x : api_Addr_) : api_Range := api_Range.mk x.ffrom x.fto
def aS (x : resource_part_int_) : api_Span := api_Span.mk x.ffrom x.fto
theorem map_one {α β : Type} {f : α → β} : ∀ {l m : List α}, l.map f = m.map f → (∀ x ∈ l, ∀ y ∈ m, f x = f y → x = y) → l = m
  | [], [], _, _ => rfl
  | [], _ :: _, h, _ => by simp at h
  | _ :: _, [], h, _ => by simp at h
  | x :: l, y :: m, h, k => by
    simp only [List.map_cons, List.cons.injEq] at h
    rw [k x (List.mem_cons_self ..) y (List.mem_cons_self ..) h.1, map_one h.2 fun a ha b hb => k a (List.mem_cons_of_mem _ ha) b (List.mem_cons_of_mem _ hb)]
theorem ivA_inj {l m : List api_Range} (hl : AVr l) (hm : AVr m) (h : l.map ivA = m.map ivA) : l = m := by
  refine map_one h fun x hx y hy e => ?_
  obtain ⟨x1, x2, _⟩ := hl x hx
  obtain ⟨y1, y2, _⟩ := hm y hy
  have e1 := rk_inj x1 y1 (congrArg Prod.fst e)
  have e2 := rk_inj x2 y2 (congrArg Prod.snd e)
  obtain ⟨a, b⟩ := x
  obtain ⟨c, d⟩ := y
  simp only at e1 e2
  rw [e1, e2]
theorem ivS_inj {l m : List api_Span} (hl : SVr l) (hm : SVr m) (h : l.map ivS = m.map ivS) : l = m := by
  refine map_one h fun x hx y hy e => ?_
  obtain ⟨x1, x2, _⟩ := hl x hx
  obtain ⟨y1, y2, _⟩ := hm y hy
  have e1 : x.fFrom.toNat = y.fFrom.toNat := congrArg Prod.fst e
  have e2 : x.fTo.toNat = y.fTo.toNat := congrArg Prod.snd e
  obtain ⟨a, b⟩ := x
  obtain ⟨c, d⟩ := y
  simp only at e1 e2 x1 x2 y1 y2
  congr 1 <;> omega
theorem addrs_one {l m : List api_Range} (hl : AVr l) (hm : AVr m) (vl : VL (l.map ivA)) (vm : VL (m.map ivA)) (h : ∀ n, inI n (l.map ivA) ↔ inI n (m.map ivA)) : l = m := ivA_inj hl hm (VL.uniq vl vm h)
theorem spans_one {l m : List api_Span} (hl : SVr l) (hm : SVr m) (vl : VL (l.map ivS)) (vm : VL (m.map ivS)) (h : ∀ n, inI n (l.map ivS) ↔ inI n (m.map ivS)) : l = m := ivS_inj hl hm (VL.uniq vl vm h)
theorem of_one {ps : List api_Prefix} {ss : List api_Span} {a a' : List api_Range} {s s' : List api_Span} (h : OfOk ps ss a s) (k : OfOk ps ss a' s') : a = a' ∧ s = s' :=
  ⟨addrs_one h.av k.av h.va k.va fun n => (h.ia n).trans (k.ia n).symm, spans_one h.sv k.sv h.vs k.vs fun n => (h.is n).trans (k.is n).symm⟩
theorem res_eq (s : resource_set) (h1 : s.faddrs.length ≤ 1000000) (h2 : s.fasns.length ≤ 1000000) : resource_set_resources s = some (LimF (s.faddrs.map aP) (s.fasns.map aS)) := by
  refine Tot.eq ?_
  unfold resource_set_resources LimF
  rw [List.length_map, List.length_map]
  refine Tot.ite (fun h => Tot.some ?_) (fun h => ?_)
  · simp only [Bool.or_eq_true, decide_eq_true_eq] at h
    rw [if_pos (by omega)]
    rfl
  · simp only [Bool.or_eq_false_iff, decide_eq_false_iff_not] at h
    rw [if_neg (by omega)]
    refine Tot.bindRng s.faddrs.length (fun k (_ : Unit) => (((k : Nat) : Int), (s.faddrs.take k).map aP)) (fun _ _ => True) (fun l => l = s.faddrs.map aP) () (by simp) trivial (fun k b hk hb => ?_) (fun b hb => ?_) (fun l hl => ?_)
    · have hw : w64 ((k : Int) + 1) = ((k + 1 : Nat) : Int) := by rw [w64_id (by omega) (by omega)]; rfl
      unfold resource_set_resources_L0
      refine Tot.iteT (by simpa using hk) (Tot.bindIdx k rfl hk (Tot.chk (limB (by simp; omega)) (Tot.step () ?_ trivial)))
      rw [hw, take_snoc hk, List.map_append]; rfl
    · unfold resource_set_resources_L0
      refine Tot.iteF (by simp) (Tot.last ?_)
      rw [List.take_length]
    subst hl
    refine Tot.bindRng s.fasns.length (fun k (_ : Unit) => (((k : Nat) : Int), (s.fasns.take k).map aS)) (fun _ _ => True) (fun l => l = s.fasns.map aS) () (by simp) trivial (fun k b hk hb => ?_) (fun b hb => ?_) (fun l hl => ?_)
    · have hw : w64 ((k : Int) + 1) = ((k + 1 : Nat) : Int) := by rw [w64_id (by omega) (by omega)]; rfl
      unfold resource_set_resources_L1
      refine Tot.iteT (by simpa using hk) (Tot.bindIdx k rfl hk (Tot.chk (limB (by simp; omega)) (Tot.step () ?_ trivial)))
      rw [hw, take_snoc hk, List.map_append]; rfl
    · unfold resource_set_resources_L1
      refine Tot.iteF (by simp) (Tot.last ?_)
      rw [List.take_length]
    subst hl
    exact Tot.some rfl
theorem avp_r {l : List api_Range} (h : AVr l) : AVp (l.map paA) := fun x hx => by
  obtain ⟨y, hy, rfl⟩ := List.mem_map.1 hx
  exact h y hy
theorem svp_r {l : List api_Span} (h : SVr l) : SVp (l.map paS) := fun x hx => by
  obtain ⟨y, hy, rfl⟩ := List.mem_map.1 hx
  exact h y hy
theorem avr_p {l : List api_Addr_} (h : AVp l) : AVr (l.map aP) := fun x hx => by
  obtain ⟨y, hy, rfl⟩ := List.mem_map.1 hx
  exact h y hy
theorem svr_p {l : List resource_part_int_} (h : SVp l) : SVr (l.map aS) := fun x hx => by
  obtain ⟨y, hy, rfl⟩ := List.mem_map.1 hx
  exact h y hy
theorem map_paA (l : List api_Range) : (l.map paA).map ivP = l.map ivA := by rw [List.map_map]; rfl
theorem map_paS (l : List api_Span) : (l.map paS).map ivI = l.map ivS := by rw [List.map_map]; rfl
theorem map_aP (l : List api_Addr_) : (l.map aP).map ivA = l.map ivP := by rw [List.map_map]; rfl
theorem map_aS (l : List resource_part_int_) : (l.map aS).map ivS = l.map ivI := by rw [List.map_map]; rfl
theorem contains4 (l : List api_Span) : slices_ContainsFunc_4 l = slices_ContainsFunc l := rfl
theorem cof_tot {ps : List api_Prefix} {ss : List api_Span} (hR : ∀ p ∈ ps, aR p.fAddr) (hl : ps.length ≤ 1000000) (hl2 : ss.length ≤ 1000000) :
    Tot (resource_Of ps ss) (fun x => (((∀ p ∈ ps, pV p) ∧ SVr ss) → ∃ a s, OfOk ps ss a s ∧ x = LimF a s) ∧ (¬ ((∀ p ∈ ps, pV p) ∧ SVr ss) → x = (zR, 1))) := by
  unfold resource_Of
  refine Tot.bindRng ps.length (fun k (b : List api_Range) => (((k : Nat) : Int), b)) (fun k b => (∀ p ∈ ps.take k, pV p) ∧ b = (ps.take k).map rangeP) (fun x => match x with | .inl _ => ¬ ∀ p ∈ ps, pV p | .inr b => (∀ p ∈ ps, pV p) ∧ b = ps.map rangeP) [] rfl ⟨fun p hp => by simp at hp, rfl⟩ (fun k b hk hb => ?_) (fun b hb => ?_) (fun x hx => ?_)
  · obtain ⟨hb1, rfl⟩ := hb
    have hw : w64 ((k : Int) + 1) = ((k + 1 : Nat) : Int) := by rw [w64_id (by omega) (by omega)]; rfl
    unfold resource_Of_L0
    refine Tot.iteT (by simpa using hk) (Tot.bindIdx k rfl hk (Tot.bindOf (pvalid_eq (hR _ (List.getElem_mem hk))) (Tot.ite (fun h => Tot.stop fun hs => ?_) (fun h => ?_))))
    · rw [validF_iff.2 (hs _ (List.getElem_mem hk))] at h; cases h
    · have hv := validF_iff.1 (show validF ps[k] = true by simpa using h)
      refine Tot.bindOf (last_eq hv) (Tot.chk (limB (by simp; omega)) (Tot.step ((ps.take k).map rangeP ++ [rangeP ps[k]]) (by rw [hw]; rfl) ⟨fun p hp => ?_, ?_⟩))
      · rw [take_snoc hk] at hp
        rcases List.mem_append.1 hp with hp | hp
        · exact hb1 p hp
        · rw [List.mem_singleton.1 hp]; exact hv
      · rw [take_snoc hk, List.map_append]; rfl
  · unfold resource_Of_L0
    refine Tot.iteF (by simp) (Tot.last ?_)
    rw [List.take_length] at hb
    exact hb
  cases x with
  | inl _ => exact Tot.some ⟨fun e => (hx e.1).elim, fun _ => rfl⟩
  | inr b =>
    obtain ⟨hp, rfl⟩ := hx
    simp only
    rw [contains4]
    refine Tot.bindT (contains_bad ss (by omega)) fun b hb => Tot.ite (fun h => Tot.some ⟨fun e => ?_, fun _ => rfl⟩) (fun h => ?_)
    · rw [hb.2 e.2] at h; cases h
    · have hs : SVr ss := hb.1 h
      have hA : AVr (ps.map rangeP) := fun x hx => by
        obtain ⟨p, hp2, rfl⟩ := List.mem_map.1 hx
        exact rangeP_A (hp p hp2)
      have hok : okI ((ps.map rangeP).map ivA) := fun y hy => by
        obtain ⟨x, hx, rfl⟩ := List.mem_map.1 hy
        obtain ⟨p, hp2, rfl⟩ := List.mem_map.1 hx
        exact rangeP_le (hp p hp2)
      refine Tot.bindOf (of_eq (api_Resources.mk (ps.map rangeP) ss) (by simp; omega) (by simp only; omega)) ?_
      refine Tot.bindT (nrm_tot (avp_r hA) (by rw [map_paA]; exact hok) (by simpa using hl)) fun a ha => Tot.bindT (nrm2_tot (svp_r hs) (by simpa using hl2)) fun s hs2 => ?_
      obtain ⟨a1, a2, a3, a4⟩ := ha
      obtain ⟨s1, s2, s3, s4⟩ := hs2
      rw [List.length_map] at a4 s4
      simp only [List.length_map] at a4 s4
      refine Tot.bindOf (res_eq (resource_set.mk a s) (by simp only; omega) (by simp only; omega)) (Tot.some ⟨fun _ => ⟨a.map aP, s.map aS, ⟨avr_p a1, by rw [map_aP]; exact a2, fun n => ?_, svr_p s1, by rw [map_aS]; exact s2, fun n => ?_, by rw [List.length_map]; exact a4, by rw [List.length_map]; exact s4⟩, rfl⟩, fun e => (e ⟨hp, hs⟩).elim⟩)
      · rw [map_aP, a3 n, map_paA]
      · rw [map_aS, s3 n, map_paS]
theorem same_tot {a b : api_Resources} (h1 : a.fAddrs.length ≤ 1000000) (h2 : a.fASNs.length ≤ 1000000) : Tot (exchangepointref21_Same a b) (fun c => c = true ↔ a = b) := by
  unfold exchangepointref21_Same
  refine Tot.ite (fun h => Tot.some ⟨fun e => (by cases e), fun e => ?_⟩) (fun h => ?_)
  · subst e
    simp at h
  · simp only [Bool.or_eq_false_iff, bne_eq_false_iff_eq] at h
    have l1 : a.fAddrs.length = b.fAddrs.length := by omega
    have l2 : a.fASNs.length = b.fASNs.length := by omega
    have hae : ∀ x y : api_Addr, ((x.fV6 == y.fV6) && ((x.fHi == y.fHi) && ((x.fLo == y.fLo) && true))) = aeq x y := fun _ _ => rfl
    refine Tot.bindRng a.fAddrs.length (fun k (_ : Unit) => ((k : Nat) : Int)) (fun k _ => a.fAddrs.take k = b.fAddrs.take k) (fun x => match x with | .inl _ => ¬ a = b | .inr _ => a.fAddrs = b.fAddrs) () rfl (by simp) (fun k u hk hb => ?_) (fun u hb => ?_) (fun x hx => ?_)
    · have hw : w64 ((k : Int) + 1) = ((k + 1 : Nat) : Int) := by rw [w64_id (by omega) (by omega)]; rfl
      have hk2 : k < b.fAddrs.length := by omega
      unfold exchangepointref21_Same_L0
      refine Tot.iteT (by simpa using hk) (Tot.bindIdx k rfl hk (Tot.bindIdx k rfl hk2 ?_))
      rw [hae, hae]
      refine Tot.ite (fun h => Tot.stop fun e => ?_) (fun h => Tot.step () (by rw [hw]) ?_)
      · subst e
        have := aeq_iff.2 (rfl : a.fAddrs[k].fFrom = a.fAddrs[k].fFrom)
        have := aeq_iff.2 (rfl : a.fAddrs[k].fTo = a.fAddrs[k].fTo)
        simp_all
      · simp only [Bool.not_eq_false', Bool.and_true, Bool.and_eq_true] at h
        obtain ⟨e1, e2⟩ := h
        have e1 := aeq_iff.1 e1
        have e2 := aeq_iff.1 e2
        have : a.fAddrs[k] = b.fAddrs[k] := by
          generalize a.fAddrs[k] = x at e1 e2
          generalize b.fAddrs[k] = y at e1 e2
          obtain ⟨x1, x2⟩ := x
          obtain ⟨y1, y2⟩ := y
          simp only at e1 e2
          rw [e1, e2]
        rw [take_snoc hk, take_snoc hk2, hb, this]
    · unfold exchangepointref21_Same_L0
      refine Tot.iteF (by simp) (Tot.last ?_)
      rw [List.take_length, l1, List.take_length] at hb
      exact hb
    cases x with
    | inl _ => exact Tot.some ⟨fun e => (by cases e), fun e => (hx e).elim⟩
    | inr _ =>
      have hx : a.fAddrs = b.fAddrs := hx
      refine Tot.bindRng a.fASNs.length (fun k (_ : Unit) => ((k : Nat) : Int)) (fun k _ => a.fASNs.take k = b.fASNs.take k) (fun x => match x with | .inl _ => ¬ a = b | .inr _ => a.fASNs = b.fASNs) () rfl (by simp) (fun k u hk hb => ?_) (fun u hb => ?_) (fun x hx2 => ?_)
      · have hw : w64 ((k : Int) + 1) = ((k + 1 : Nat) : Int) := by rw [w64_id (by omega) (by omega)]; rfl
        have hk2 : k < b.fASNs.length := by omega
        unfold exchangepointref21_Same_L1
        refine Tot.iteT (by simpa using hk) (Tot.bindIdx k rfl hk (Tot.bindIdx k rfl hk2 (Tot.ite (fun h => Tot.stop fun e => ?_) (fun h => Tot.step () (by rw [hw]) ?_))))
        · subst e
          simp at h
        · simp only [Bool.not_eq_false', Bool.and_true, Bool.and_eq_true, beq_iff_eq] at h
          obtain ⟨e1, e2⟩ := h
          have : a.fASNs[k] = b.fASNs[k] := by
            generalize a.fASNs[k] = x at e1 e2
            generalize b.fASNs[k] = y at e1 e2
            obtain ⟨x1, x2⟩ := x
            obtain ⟨y1, y2⟩ := y
            simp only at e1 e2
            rw [e1, e2]
          rw [take_snoc hk, take_snoc hk2, hb, this]
      · unfold exchangepointref21_Same_L1
        refine Tot.iteF (by simp) (Tot.last ?_)
        rw [List.take_length, l2, List.take_length] at hb
        exact hb
      cases x with
      | inl _ => exact Tot.some ⟨fun e => (by cases e), fun e => (hx2 e).elim⟩
      | inr _ =>
        have hx2 : a.fASNs = b.fASNs := hx2
        refine Tot.some ⟨fun _ => ?_, fun _ => rfl⟩
        obtain ⟨x1, x2⟩ := a
        obtain ⟨y1, y2⟩ := b
        simp only at hx hx2
        rw [hx, hx2]
theorem same_self {a : api_Resources} (h1 : a.fAddrs.length ≤ 1000000) (h2 : a.fASNs.length ≤ 1000000) : exchangepointref21_Same a a = some true := by
  obtain ⟨c, e, h⟩ := same_tot (b := a) h1 h2
  rw [e, h.2 rfl]
end Go.Proofs.YtgcilleccigmdaaDoor
