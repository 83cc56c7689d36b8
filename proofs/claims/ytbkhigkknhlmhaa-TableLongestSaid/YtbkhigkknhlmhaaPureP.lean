/- The law of the longest match in plain Lean. -/
import Derived.Test.YtbkhigkknhlmhaaPureN
namespace Go.Proofs.Ytbkhigkknhlmhaa
open Go Go.Vc

theorem make_full {a : api_Addr} (ha : aV a) : MakeF a (wid a.fV6) = (api_Prefix.mk a (wid a.fV6), 0) := by
  rw [makeF_ok ha (Nat.le_refl _), Nat.sub_self]
  have : cut (nA a) 0 = nA a := by unfold cut; simp
  rw [this, mkA_nA ha.1]
theorem covers_full {x : api_Prefix} (hx : pV x) (a : api_Addr) : CoversF x (api_Prefix.mk a (wid a.fV6)) = ContF x a := by
  unfold CoversF
  cases c : ContF x a with
  | false => rw [Bool.and_false]
  | true =>
    have := ((cont_iff hx).1 c).1
    have hl := hx.len1
    rw [this]
    rw [decide_eq_true hl]; rfl
theorem l3_eq {x : api_Entry} {l : List api_Entry} (hl : l.length ≤ 4000000000) : Tot (loop (exchangepointlaw03_TableLongest_L3 x l) (false, (0 : Int))) (fun b => b = l.any fun z => eeq z x) := by
  refine Tot.rng l.length (fun k (b : Bool) => (b, ((k : Nat) : Int))) (fun k b => b = (l.take k).any fun z => eeq z x) _ false rfl rfl (fun k b hk hb => ?_) (fun b hb => ?_)
  · have hw : w64 ((k : Int) + 1) = ((k + 1 : Nat) : Int) := by rw [w64_id (by omega) (by omega)]; rfl
    unfold exchangepointlaw03_TableLongest_L3
    refine Tot.iteT (by simpa using hk) (Tot.bindIdx k rfl hk (Tot.step (b || eeq l[k] x) (by rw [hw]; rfl) ?_))
    rw [hb, take_snoc hk, List.any_append]
    simp
  · unfold exchangepointlaw03_TableLongest_L3
    refine Tot.iteF (by simp) (Tot.last ?_)
    rw [hb, List.take_length]
theorem l2_eq {t : List api_Entry} {d : exchangepointmake_Deck} (h : TV t) (hl : t.length ≤ 1000000) {x : api_Entry} (hx : x ∈ t) : Tot (loop (exchangepointlaw03_TableLongest_L2 (t, d) x (t.filter fun y => CoversF x.fPrefix y.fPrefix)) (0 : Int)) (fun r => r = .inr ()) := by
  generalize hg : (t.filter fun y => CoversF x.fPrefix y.fPrefix) = g
  have hgl : g.length ≤ t.length := by rw [← hg]; exact List.length_filter_le _ _
  refine Tot.rng g.length (fun k (_ : Unit) => ((k : Nat) : Int)) (fun _ _ => True) _ () rfl trivial (fun k b hk _ => ?_) (fun b _ => ?_)
  · have hw : w64 ((k : Int) + 1) = ((k + 1 : Nat) : Int) := by rw [w64_id (by omega) (by omega)]; rfl
    have hy := List.getElem_mem hk
    have hy2 : g[k] ∈ t ∧ CoversF x.fPrefix g[k].fPrefix = true := by
      have : g[k] ∈ t.filter fun y => CoversF x.fPrefix y.fPrefix := by rw [hg]; exact hy
      exact List.mem_filter.1 this
    unfold exchangepointlaw03_TableLongest_L2
    refine Tot.iteT (by simpa using hk) (Tot.bindIdx k rfl hk (Tot.bindOf (covering_eq (t := t) (h.1 _ hy2.1).addr.1 (by omega)) (Tot.bindT (l3_eq (Nat.le_trans (List.length_filter_le _ _) (by omega))) fun r hr => ?_)))
    have : r = true := by
      rw [hr, List.any_eq_true]
      exact ⟨x, List.mem_filter.2 ⟨hx, hy2.2⟩, eeq_iff.2 rfl⟩
    exact Tot.iteF (by rw [this]; decide) (Tot.step () (by rw [hw]) trivial)
  · unfold exchangepointlaw03_TableLongest_L2
    exact Tot.iteF (by simp) (Tot.last rfl)
theorem l1_eq {t : List api_Entry} {d : exchangepointmake_Deck} (h : TV t) (hl : t.length ≤ 1000000) : Tot (loop (exchangepointlaw03_TableLongest_L1 (t, d)) (0 : Int)) (fun r => r = .inr ()) := by
  refine Tot.rng t.length (fun k (_ : Unit) => ((k : Nat) : Int)) (fun _ _ => True) _ () rfl trivial (fun k b hk _ => ?_) (fun b _ => ?_)
  · have hw : w64 ((k : Int) + 1) = ((k + 1 : Nat) : Int) := by rw [w64_id (by omega) (by omega)]; rfl
    unfold exchangepointlaw03_TableLongest_L1
    refine Tot.iteT (by simpa using hk) (Tot.bindIdx k rfl hk (Tot.bindOf (covered_eq (t := t) _ h.R (by omega)) (Tot.bindT (l2_eq h hl (List.getElem_mem hk)) fun r hr => ?_)))
    subst hr
    exact Tot.step () (by rw [hw]) trivial
  · unfold exchangepointlaw03_TableLongest_L1
    exact Tot.iteF (by simp) (Tot.last rfl)
theorem l0_eq {t : List api_Entry} (h : TV t) (hl : t.length ≤ 1000000) (a : api_Addr) : Tot (loop (exchangepointlaw03_TableLongest_L0 (t.filter fun x => ContF x.fPrefix a)) (1 : Int)) (fun r => r = .inr ()) := by
  have hv := filter_V (fun x => ContF x.fPrefix a) h
  have hm : ∀ x, x ∈ (t.filter fun x => ContF x.fPrefix a) → x ∈ t ∧ ContF x.fPrefix a = true := fun x hx => List.mem_filter.1 hx
  have hgl : (t.filter fun x => ContF x.fPrefix a).length ≤ t.length := List.length_filter_le _ _
  generalize (t.filter fun x => ContF x.fPrefix a) = g at hv hm hgl ⊢
  refine Tot.rng (g.length - 1) (fun k (_ : Unit) => ((k + 1 : Nat) : Int)) (fun _ _ => True) _ () rfl trivial (fun k b hk _ => ?_) (fun b _ => ?_)
  · have hw : w64 (((k + 1 : Nat) : Int) + 1) = ((k + 1 + 1 : Nat) : Int) := by rw [w64_id (by omega) (by omega)]; rfl
    have k0 : k < g.length := by omega
    have k1 : k + 1 < g.length := by omega
    have m0 := hm _ (List.getElem_mem k0)
    have m1 := hm _ (List.getElem_mem k1)
    have hp := List.pairwise_iff_getElem.1 hv.2 k (k + 1) k0 k1 (by omega)
    unfold exchangepointlaw03_TableLongest_L0
    refine Tot.iteT (by simp only [decide_eq_true_eq]; omega) ?_
    rw [w64_id (n := ((k + 1 : Nat) : Int) - 1) (by omega) (by omega)]
    refine Tot.bindIdx k (by omega) k0 (Tot.bindIdx (k + 1) rfl k1 (Tot.bindOf (rcovers_eq _ (h.1 _ m1.1).addr) (Tot.iteF ?_ (Tot.step () (by rw [hw]) trivial))))
    rw [nest (h.1 _ m0.1) (h.1 _ m1.1) m0.2 m1.2 (Int.le_of_lt (cont_lt h m0.1 m1.1 hp m0.2 m1.2))]
    decide
  · unfold exchangepointlaw03_TableLongest_L0
    exact Tot.iteF (decide_eq_false (by omega)) (Tot.last rfl)
/-- the law -/
theorem longest_law (a0 : List Int) (h0 : (∀ y ∈ a0, I64 y) ∧ a0.length ≤ maxLen) : exchangepointlaw03_TableLongest a0 = some true := by
  refine Tot.eq ?_
  unfold exchangepointlaw03_TableLongest
  refine Tot.bindOf (show exchangepointmake_New a0 = some ⟨a0, 0⟩ from rfl) (Tot.bindT (table_tot _ (new_ok a0 (by have := h0.2; unfold maxLen at this; omega))) ?_)
  rintro ⟨t, d⟩ ⟨⟨ht, hl⟩, hd⟩
  simp only at ht hl hd ⊢
  refine Tot.bindT (addr_tot _ hd) ?_
  rintro ⟨a, d1⟩ ⟨ha, hd1⟩
  simp only at ha hd1 ⊢
  refine Tot.jnR (fun m : Bool × exchangepointmake_Deck => DeckOk m.2 ∧ (m.1 = true → 0 < t.length)) (fun j hj => Tot.ite (fun hc => ?_) (fun hc => hj _ ⟨hd1, fun e => by cases e⟩)) (fun m hm => ?_)
  · have hc : 0 < t.length := by simpa using hc
    refine Tot.bindT (next_tot _ hd1 3 (by omega) (by omega)) ?_
    rintro ⟨n, d2⟩ ⟨n0, n1, hd2⟩
    exact hj _ ⟨hd2, fun _ => hc⟩
  refine Tot.jnR (fun a : api_Addr => aV a) (fun j hj => Tot.ite (fun hc => ?_) (fun hc => hj _ ha)) (fun a ha => ?_)
  · have hc := hm.2 hc
    refine Tot.bindT (next_tot _ hm.1 t.length (by omega) (by omega)) ?_
    rintro ⟨n, d2⟩ ⟨n0, n1, hd2⟩
    simp only at n0 n1 ⊢
    exact Tot.bindIdx n.toNat (by omega) (by omega) (hj _ (ht.1 _ (List.getElem_mem _)).addr)
  refine Tot.jnR (fun n : Int => n = wid a.fV6) (fun j hj => Tot.ite (fun hc => hj _ (by rw [hc]; rfl)) (fun hc => hj _ (by rw [show a.fV6 = false by simpa using hc]; rfl))) (fun n hn => ?_)
  subst hn
  refine Tot.bindOf (rmake_eq ha.1 _) ?_
  rw [make_full ha]
  refine Tot.bindOf (covering_eq ha.1 (by omega)) ?_
  have e : (t.filter fun x => CoversF x.fPrefix (api_Prefix.mk a (wid a.fV6))) = t.filter fun x => ContF x.fPrefix a := List.filter_congr fun x hx => covers_full (ht.1 x hx) a
  simp only
  rw [e]
  refine Tot.bindOf (look_eq ht ha.1 (by omega)) (Tot.jnR (fun m : Bool => m = false) (fun j hj => ?_) (fun m hm => ?_))
  · have hgl : (t.filter fun x => ContF x.fPrefix a).length ≤ t.length := List.length_filter_le _ _
    rw [look_last ht]
    simp only
    rcases List.eq_nil_or_concat (t.filter fun x => ContF x.fPrefix a) with e | ⟨l, y, e⟩
    · rw [e]
      exact Tot.iteF (by simp) (Tot.iteF (by simp) (hj _ rfl))
    · rw [List.concat_eq_append] at e
      rw [e] at hgl ⊢
      rw [List.getLast?_concat]
      refine Tot.iteF (by simp) (Tot.iteT rfl ?_)
      simp only [List.length_append, List.length_singleton] at hgl ⊢
      rw [w64_id (by omega) (by omega)]
      refine Tot.bindIdx l.length (by omega) (by simp) (hj _ ?_)
      show (!(eeq y ((l ++ [y])[l.length]'(by simp)))) = false
      rw [List.getElem_concat_length rfl, eeq_iff.2 rfl, Bool.not_true]
  · refine Tot.iteF hm (Tot.bindT (l0_eq ht (by omega) a) fun x hx => ?_)
    subst hx
    refine Tot.bindT (l1_eq ht (by omega)) fun x hx => ?_
    subst hx
    exact Tot.bindOf awake_eq (Tot.some rfl)
end Go.Proofs.Ytbkhigkknhlmhaa
