/- The law of states against the document, in plain Lean. -/
import Derived.Test.YtgfoabcickjphaaDoorPureA
namespace Go.Proofs.YtgfoabcickjphaaDoor
open Go Go.Vc
theorem rstate_eq {l : List api_Object} {q : api_Prefix} (hq : aV q.fAddr) (n : Int) (hl : l.length ≤ 1000000) : exchangepointref22_State l q n = some (stL q n (cov q l), cov q l) := by
 refine Tot.eq ?_
 unfold exchangepointref22_State
 refine Tot.bindRng l.length (fun k (_ : Unit) => (stL q n (cov q (l.take k)), ((k : Nat) : Int), cov q (l.take k))) (fun _ _ => True) (fun p => p = (stL q n (cov q l), cov q l)) () rfl trivial (fun k _ hk _ => ?_) (fun _ _ => ?_) (fun p hp => by subst hp; exact Tot.some rfl)
 ·have hw : w64 ((k : Int) + 1) = ((k + 1 : Nat) : Int) := by rw [w64_id (by omega) (by omega)]; rfl
  unfold exchangepointref22_State_L0
  refine Tot.iteT (by simpa using hk) (Tot.jnR (fun m : Int × List api_Object => m = (stL q n (cov q (l.take (k + 1))), cov q (l.take (k + 1)))) (fun j hj => ?_) (fun m hm => Tot.step () (by rw [hm, hw]) trivial))
  rw [cov_snoc hk] at hj
  refine Tot.bindIdx k rfl hk (Tot.bindOf (rcovers_eq _ hq) (Tot.ite (fun h => hj _ ?_) (fun h => ?_)))
  ·have h : CoversF l[k].fPrefix q = false := by simpa using h
   rw [if_neg (by rw [h]; simp)]
  ·have h : CoversF l[k].fPrefix q = true := by simpa using h
   rw [if_pos h, stL_snoc] at hj
   have hlen : (cov q (l.take k) ++ [l[k]]).length ≤ 4000000000 := by
    have := cov_len (q := q) (l := l.take k)
    rw [List.length_take] at this
    simp only [List.length_append, List.length_cons, List.length_nil]
    omega
   refine Tot.chk (limB hlen) (Tot.jnR (fun m : Int => m = if stL q n (cov q (l.take k)) = 0 then 2 else stL q n (cov q (l.take k))) (fun j2 hj2 => Tot.ite (fun h2 => hj2 _ ?_) (fun h2 => hj2 _ ?_)) (fun m hm => Tot.ite (fun h2 => hj _ ?_) (fun h2 => hj _ ?_)))
   ·rw [if_pos (beq_iff_eq.1 h2)]
   ·rw [if_neg (beq_eq_false_iff_ne.1 h2)]
   ·rw [if_pos (show okO q n l[k] = true from h2)]
   ·rw [if_neg (show ¬ okO q n l[k] = true by unfold okO; rw [h2]; simp), hm]
 ·unfold exchangepointref22_State_L0
  refine Tot.iteF (by simp) (Tot.last ?_)
  rw [List.take_length]
theorem sameobj (l : List api_Object) (hl : l.length ≤ 1000000) : exchangepointref20_SameObjects l l = some true := by
 refine Tot.eq ?_
 unfold exchangepointref20_SameObjects
 refine Tot.iteF (by simp) (Tot.bindRng l.length (fun k (_ : Unit) => ((k : Nat) : Int)) (fun _ _ => True) (fun x => x = .inr ()) () rfl trivial (fun k _ hk _ => ?_) (fun _ _ => ?_) ?_)
 ·have hw : w64 ((k : Int) + 1) = ((k + 1 : Nat) : Int) := by rw [w64_id (by omega) (by omega)]; rfl
  unfold exchangepointref20_SameObjects_L0
  exact Tot.iteT (by simpa using hk) (Tot.bindIdx k rfl hk (Tot.bindIdx k rfl hk (Tot.iteF (by simp) (Tot.step () (by rw [hw]) trivial))))
 ·unfold exchangepointref20_SameObjects_L0
  exact Tot.iteF (by simp) (Tot.last rfl)
 ·rintro _ rfl
  exact Tot.some rfl
theorem makeF_pV {a : api_Addr} {n : Int} (h : (MakeF a n).2 = 0) : pV (MakeF a n).1 := by
 unfold MakeF at h ⊢
 by_cases c : aV a
 ·rw [if_pos c] at h ⊢
  by_cases c2 : 0 ≤ n ∧ n ≤ wid a.fV6
  ·rw [if_pos c2]
   obtain ⟨m, rfl⟩ : ∃ m : Nat, n = m := ⟨n.toNat, by omega⟩
   exact make_V c (by omega)
  ·rw [if_neg c2] at h; cases h
 ·rw [if_neg c] at h; cases h
theorem st_L0 (n : Nat) (hn : n ≤ 100) (d : exchangepointmake_Deck) (hd : DeckOk d) : Tot (loop exchangepointlaw22_OriginStates_L0 ((n : Int), ([] : List api_Object), d)) (fun x => (∀ o ∈ x.1, pV o.fPrefix) ∧ x.1.length ≤ n ∧ DeckOk x.2) := by
 refine Tot.rng n (fun k (b : List api_Object × exchangepointmake_Deck) => (((n - k : Nat) : Int), b.1, b.2)) (fun k b => (∀ o ∈ b.1, pV o.fPrefix) ∧ b.1.length = k ∧ DeckOk b.2) _ ([], d) rfl ⟨fun x hx => (by cases hx), rfl, hd⟩ (fun k b hk hb => ?_) (fun b hb => ?_)
 ·obtain ⟨hb1, hb2, hb3⟩ := hb
  unfold exchangepointlaw22_OriginStates_L0
  refine Tot.iteT (decide_eq_true (by simp only; omega)) (Tot.bindT (obj_tot _ hb3) fun o ho => Tot.bindT (next_tot _ ho.2 5 (by decide) (by decide)) fun x hx => ?_)
  refine Tot.chk (limB (by simp; omega)) (Tot.step (b.1 ++ [api_Object.mk o.1.fPrefix o.1.fMax x.1], x.2) ?_ ⟨fun y hm => ?_, by simp; omega, hx.2.2⟩)
  ·rw [w64_id (by omega) (by omega), show ((n - k : Nat) : Int) - 1 = ((n - (k + 1) : Nat) : Int) from by omega]
  ·rcases List.mem_append.1 hm with hm | hm
   ·exact hb1 y hm
   ·rw [List.mem_singleton.1 hm]; exact ho.1
 ·obtain ⟨hb1, hb2, hb3⟩ := hb
  unfold exchangepointlaw22_OriginStates_L0
  exact Tot.iteF (decide_eq_false (by simp only; omega)) (Tot.last ⟨hb1, by simp only; omega, hb3⟩)
theorem st_L1 {p : List api_Object × exchangepointmake_Deck} (hp : ∀ o ∈ p.1, pV o.fPrefix) (hl : p.1.length ≤ 100) {l : List api_Prefix} (h1 : ∀ q ∈ l, pV q) (h2 : l.length ≤ 10) {d : exchangepointmake_Deck} (hd : DeckOk d) :
  Tot (loop (exchangepointlaw22_OriginStates_L1 p) ((0 : Int), l, d)) (fun x => (∀ q ∈ x, pV q) ∧ x.length ≤ 1000) := by
 refine Tot.rng p.1.length (fun k (b : List api_Prefix × exchangepointmake_Deck) => (((k : Nat) : Int), b.1, b.2)) (fun k b => (∀ q ∈ b.1, pV q) ∧ b.1.length ≤ 10 + 2 * k ∧ DeckOk b.2) _ (l, d) rfl ⟨h1, by simp only; omega, hd⟩ (fun k b hk hb => ?_) (fun b hb => ?_)
 ·obtain ⟨hb1, hb2, hb3⟩ := hb
  have hw : w64 ((k : Int) + 1) = ((k + 1 : Nat) : Int) := by rw [w64_id (by omega) (by omega)]; rfl
  have ho := hp _ (List.getElem_mem hk)
  unfold exchangepointlaw22_OriginStates_L1
  refine Tot.iteT (by simpa using hk) (Tot.bindIdx k rfl hk (Tot.bindIdx k rfl hk (Tot.bindT (next_tot _ hb3 3 (by decide) (by decide)) fun x hx => Tot.bindOf (rmake_eq ho.addr.1 _) ?_)))
  have hone : ∀ q ∈ b.1 ++ [p.1[k].fPrefix], pV q := fun q hq => by
   rcases List.mem_append.1 hq with e | e
   ·exact hb1 q e
   ·rw [List.mem_singleton.1 e]; exact ho
  have hl1 : (b.1 ++ [p.1[k].fPrefix]).length = b.1.length + 1 := by simp
  refine Tot.chk (limB (show (b.1 ++ [p.1[k].fPrefix]).length ≤ 4000000000 by omega)) (Tot.jnR (fun m : List api_Prefix => (∀ q ∈ m, pV q) ∧ m.length ≤ 10 + 2 * (k + 1)) (fun j hj => Tot.ite (fun h => ?_) (fun h => hj _ ⟨hone, by simp only; omega⟩)) (fun m hm => Tot.step (m, x.2) (by rw [hw]) ⟨hm.1, hm.2, hx.2.2⟩))
  have hv := makeF_pV (beq_iff_eq.1 h)
  generalize (MakeF p.1[k].fPrefix.fAddr (w64 ((w64 (p.1[k].fMax + x.1)) - (1 : Int)))) = mk at hv ⊢
  have hl2 : (b.1 ++ [p.1[k].fPrefix] ++ [mk.1]).length = b.1.length + 2 := by simp
  refine Tot.chk (limB (show (b.1 ++ [p.1[k].fPrefix] ++ [mk.1]).length ≤ 4000000000 by omega)) (hj _ ⟨fun q hq => ?_, by simp only; omega⟩)
  rcases List.mem_append.1 hq with e | e
  ·exact hone q e
  ·rw [List.mem_singleton.1 e]; exact hv
 ·obtain ⟨hb1, hb2, hb3⟩ := hb
  unfold exchangepointlaw22_OriginStates_L1
  exact Tot.iteF (by simp) (Tot.last ⟨hb1, show b.1.length ≤ 1000 by omega⟩)
theorem st_L3 {a1 r : Int} {p : List api_Object × exchangepointmake_Deck} (hl : p.1.length ≤ 100) {q : api_Prefix} (hq : pV q) : Tot (loop (exchangepointlaw22_OriginStates_L3 a1 p q r) (0 : Int)) (fun x => x = .inr ()) := by
 refine Tot.rng 2 (fun k (_ : Unit) => ((k : Nat) : Int)) (fun _ _ => True) _ () rfl trivial (fun k _ hk _ => ?_) (fun _ _ => ?_)
 ·have hw : w64 ((k : Int) + 1) = ((k + 1 : Nat) : Int) := by rw [w64_id (by omega) (by omega)]; rfl
  have := cov_len (q := q) (l := p.1)
  unfold exchangepointlaw22_OriginStates_L3
  refine Tot.iteT (decide_eq_true (show (k : Int) < 2 by omega)) (Tot.bindIdx k rfl hk (Tot.bindOf (state_eq hq.addr.1 _ (by omega)) (Tot.bindOf (rstate_eq hq.addr _ (by omega)) ?_)))
  exact Tot.jnR (fun m : Bool => m = false) (fun j hj => Tot.iteF (by simp) (Tot.bindOf (sameobj (cov q p.1) (by omega)) (hj _ rfl))) (fun m hm => Tot.iteF hm (Tot.step () (by rw [hw]) trivial))
 ·unfold exchangepointlaw22_OriginStates_L3
  exact Tot.iteF rfl (Tot.last rfl)
theorem states_law (a0 : List Int) (h0 : (∀ y ∈ a0, I64 y) ∧ a0.length ≤ maxLen) (a1 : Int) (_ : I64 a1) : exchangepointlaw22_OriginStates a0 a1 = some true := by
 refine Tot.eq ?_
 unfold maxLen at h0
 unfold exchangepointlaw22_OriginStates
 refine Tot.bindOf (show exchangepointmake_New a0 = some ⟨a0, 0⟩ from rfl) (Tot.bindT (next_tot _ (new_ok a0 (by omega)) 14 (by decide) (by decide)) ?_)
 rintro ⟨x, d⟩ ⟨x0, x1, hd⟩
 simp only at x0 x1 hd ⊢
 obtain ⟨n, rfl⟩ : ∃ n : Nat, x = n := ⟨x.toNat, by omega⟩
 refine Tot.bindT (st_L0 n (by omega) d hd) fun p hp => Tot.bindT (prefix_tot _ hp.2.2) fun q hq => Tot.bindT (st_L1 hp.1 (by have := hp.2.1; omega) (l := [q.1]) (fun z hz => by rw [List.mem_singleton.1 hz]; exact hq.1) (by simp) hq.2) fun l hl => ?_
 refine Tot.bindRng l.length (fun k (_ : Unit) => ((k : Nat) : Int)) (fun _ _ => True) (fun x => x = .inr ()) () rfl trivial (fun k _ hk _ => ?_) (fun _ _ => ?_) ?_
 ·have hln := hl.2
  have hw : w64 ((k : Int) + 1) = ((k + 1 : Nat) : Int) := by rw [w64_id (by omega) (by omega)]; rfl
  unfold exchangepointlaw22_OriginStates_L2
  refine Tot.iteT (by simpa using hk) (Tot.bindIdx k rfl hk (Tot.bindIdx k rfl hk (Tot.bindOf (mod_eq a1 6 (by decide) (by decide)) (Tot.bindT (st_L3 (by have := hp.2.1; omega) (hl.1 _ (List.getElem_mem hk))) ?_))))
  rintro _ rfl
  exact Tot.step () (by rw [hw]) trivial
 ·unfold exchangepointlaw22_OriginStates_L2
  exact Tot.iteF (by simp) (Tot.last rfl)
 ·rintro _ rfl
  exact Tot.bindOf awake_eq (Tot.some rfl)
end Go.Proofs.YtgfoabcickjphaaDoor
