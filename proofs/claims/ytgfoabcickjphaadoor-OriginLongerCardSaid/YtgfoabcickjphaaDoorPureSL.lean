/- The law of more specific prefixes, in plain Lean. -/
import Derived.Test.YtgfoabcickjphaaDoorPureA
namespace Go.Proofs.YtgfoabcickjphaaDoor
open Go Go.Vc
theorem lg_L0 (n : Nat) (hn : n ≤ 100) (d : exchangepointmake_Deck) (hd : DeckOk d) : Tot (loop exchangepointlaw22_OriginLonger_L0 ((n : Int), ([] : List api_Object), d)) (fun x => (∀ o ∈ x.1, pV o.fPrefix) ∧ x.1.length ≤ n ∧ DeckOk x.2) := by
 refine Tot.rng n (fun k (b : List api_Object × exchangepointmake_Deck) => (((n - k : Nat) : Int), b.1, b.2)) (fun k b => (∀ o ∈ b.1, pV o.fPrefix) ∧ b.1.length = k ∧ DeckOk b.2) _ ([], d) rfl ⟨fun x hx => (by cases hx), rfl, hd⟩ (fun k b hk hb => ?_) (fun b hb => ?_)
 ·obtain ⟨hb1, hb2, hb3⟩ := hb
  unfold exchangepointlaw22_OriginLonger_L0
  refine Tot.iteT (decide_eq_true (by simp only; omega)) (Tot.bindT (obj_tot _ hb3) fun o ho => Tot.bindT (next_tot _ ho.2 4 (by decide) (by decide)) fun x hx => ?_)
  refine Tot.chk (limB (by simp; omega)) (Tot.step (b.1 ++ [api_Object.mk o.1.fPrefix o.1.fMax x.1], x.2) ?_ ⟨fun y hm => ?_, by simp; omega, hx.2.2⟩)
  ·rw [w64_id (by omega) (by omega), show ((n - k : Nat) : Int) - 1 = ((n - (k + 1) : Nat) : Int) from by omega]
  ·rcases List.mem_append.1 hm with hm | hm
   ·exact hb1 y hm
   ·rw [List.mem_singleton.1 hm]; exact ho.1
 ·obtain ⟨hb1, hb2, hb3⟩ := hb
  unfold exchangepointlaw22_OriginLonger_L0
  exact Tot.iteF (decide_eq_false (by simp only; omega)) (Tot.last ⟨hb1, by simp only; omega, hb3⟩)
theorem filt_len {α : Type} {f g : α → Bool} : ∀ {l : List α}, (∀ x ∈ l, f x = true → g x = true) → (l.filter f).length ≤ (l.filter g).length
 | [], _ => Nat.le_refl _
 | x :: l, h => by
  have ih := filt_len (f := f) (g := g) fun y hy => h y (List.mem_cons_of_mem x hy)
  rw [List.filter_cons, List.filter_cons]
  by_cases c : f x = true
  ·rw [if_pos c, if_pos (h x (List.mem_cons_self ..) c), List.length_cons, List.length_cons]
   omega
  ·rw [if_neg c]
   split
   ·rw [List.length_cons]; omega
   ·exact ih
theorem cov_more {l : List api_Object} (hl : ∀ o ∈ l, pV o.fPrefix) {p q : api_Prefix} (hp : pV p) (h : CoversF p q = true) : (cov p l).length ≤ (cov q l).length :=
 filt_len fun o ho c => covers_trans (hl o ho) hp c h
theorem half_cov {p : api_Prefix} (hp : pV p) (hl : p.fLen < wid p.fAddr.fV6) : CoversF p (loH p) = true ∧ CoversF p (hiH p) = true := by
 have hf := fr_eq hp
 refine ⟨(covers_iff hp).2 ⟨show p.fLen ≤ p.fLen + 1 by omega, rfl, low_fr hp⟩, ?_⟩
 have hc : ContF p (hiH p).fAddr = true := by
  refine (cont_num hp).2 ⟨rfl, ?_, ?_⟩
  ·show _ ≤ nA (mkA _ _)
   rw [nA_mkA]; exact Nat.le_add_right _ _
  ·show nA (mkA _ _) ≤ _
   rw [nA_mkA, last_num hp]
   obtain ⟨f, ef⟩ : ∃ f, fr p = f + 1 := ⟨fr p - 1, by omega⟩
   rw [ef, Nat.add_sub_cancel, Nat.pow_succ]
   have := Nat.pow_pos (n := f) (show 0 < 2 by decide)
   omega
 unfold CoversF
 rw [hc, Bool.and_true]
 exact decide_eq_true (show p.fLen ≤ p.fLen + 1 by omega)
theorem lg_L1 {l : List api_Object × exchangepointmake_Deck} (hl : ∀ o ∈ l.1, pV o.fPrefix) (hn : l.1.length ≤ 100) {p : api_Prefix} (hp : pV p) {n : Int} {r : api_Prefix × api_Prefix × Int} (h1 : aV r.1.fAddr ∧ CoversF p r.1 = true) (h2 : aV r.2.1.fAddr ∧ CoversF p r.2.1 = true) :
  Tot (loop (exchangepointlaw22_OriginLonger_L1 l n (stL p n (cov p l.1), cov p l.1) r) (0 : Int)) (fun x => x = .inr ()) := by
 have hall : ∀ q ∈ [r.1, r.2.1], aV q.fAddr ∧ CoversF p q = true := fun q hq => by
  simp only [List.mem_cons, List.not_mem_nil, or_false] at hq
  rcases hq with rfl | rfl
  ·exact h1
  ·exact h2
 refine Tot.rng 2 (fun k (_ : Unit) => ((k : Nat) : Int)) (fun _ _ => True) _ () rfl trivial (fun k _ hk _ => ?_) (fun _ _ => ?_)
 ·have hw : w64 ((k : Int) + 1) = ((k + 1 : Nat) : Int) := by rw [w64_id (by omega) (by omega)]; rfl
  obtain ⟨g1, g2⟩ := hall _ (List.getElem_mem (show k < [r.1, r.2.1].length from hk))
  have hm := cov_more hl hp g2
  unfold exchangepointlaw22_OriginLonger_L1
  refine Tot.iteT (decide_eq_true (show (k : Int) < 2 by omega)) (Tot.bindIdx k rfl hk (Tot.bindOf (state_eq g1.1 _ (by omega)) (Tot.iteF ?_ (Tot.step () (by rw [hw]) trivial))))
  rw [Bool.or_eq_false_iff, Bool.and_eq_false_iff, decide_eq_false_iff_not]
  refine ⟨?_, by simp only; omega⟩
  by_cases c : stL p n (cov p l.1) = 0
  ·left
   simp only
   rw [c]
   rfl
  ·right
   simp only
   rw [beq_eq_false_iff_ne]
   intro e
   have e2 := stL_zero.1 e
   refine c (stL_zero.2 ?_)
   rw [e2] at hm
   exact List.length_eq_zero_iff.1 (by simpa using hm)
 ·unfold exchangepointlaw22_OriginLonger_L1
  exact Tot.iteF rfl (Tot.last rfl)
theorem longer_law (a0 : List Int) (h0 : (∀ y ∈ a0, I64 y) ∧ a0.length ≤ maxLen) (a1 : Int) (_ : I64 a1) : exchangepointlaw22_OriginLonger a0 a1 = some true := by
 refine Tot.eq ?_
 unfold maxLen at h0
 unfold exchangepointlaw22_OriginLonger
 refine Tot.bindOf (show exchangepointmake_New a0 = some ⟨a0, 0⟩ from rfl) (Tot.bindT (next_tot _ (new_ok a0 (by omega)) 9 (by decide) (by decide)) ?_)
 rintro ⟨x, d⟩ ⟨x0, x1, hd⟩
 simp only at x0 x1 hd ⊢
 obtain ⟨n, rfl⟩ : ∃ n : Nat, x = n := ⟨x.toNat, by omega⟩
 refine Tot.bindT (lg_L0 n (by omega) d hd) fun l hl => Tot.bindT (prefix_tot _ hl.2.2) fun q hq => Tot.bindOf (mod_eq a1 5 (by decide) (by decide)) ?_
 obtain ⟨l1, l2, l3⟩ := hl
 refine Tot.jnR (fun m : Bool × exchangepointmake_Deck => (m.1 = true → 0 < l.1.length) ∧ DeckOk m.2) (fun j hj => Tot.ite (fun h => ?_) (fun h => hj _ ⟨fun e => (by cases e), hq.2⟩)) (fun m hm => ?_)
 ·have h := of_decide_eq_true h
  exact Tot.bindT (next_tot _ hq.2 4 (by decide) (by decide)) fun y hy => hj _ ⟨fun _ => by omega, hy.2.2⟩
 refine Tot.jnR (fun p : api_Prefix => pV p) (fun j hj => Tot.ite (fun h => ?_) (fun h => hj _ hq.1)) (fun p hp => ?_)
 ·have h := hm.1 h
  refine Tot.bindT (next_tot _ hm.2 (l.1.length : Int) (by omega) (by omega)) ?_
  rintro ⟨y, e⟩ ⟨y0, y1, _⟩
  simp only at y0 y1 ⊢
  obtain ⟨k, rfl⟩ : ∃ k : Nat, y = k := ⟨y.toNat, by omega⟩
  have hk : k < l.1.length := by omega
  exact Tot.bindIdx k rfl hk (Tot.bindIdx k rfl hk (hj _ (l1 _ (List.getElem_mem hk))))
 ·refine Tot.bindOf (state_eq hp.addr.1 _ (by omega)) (Tot.bindOf (rhalves_eq hp.addr.1) (Tot.iteF ?_ ?_))
  ·rw [Bool.and_eq_false_iff]
   by_cases c : a1 % 5 = 0
   ·right
    rw [c, beq_eq_false_iff_ne]
    simp only
    intro e
    unfold stL at e
    have : (cov p l.1).any (okO p 0) = false := by
     rw [List.any_eq_false]
     intro o _
     unfold okO
     simp
    rw [this, if_neg (by simp)] at e
    split at e <;> cases e
   ·left
    rw [beq_eq_false_iff_ne]
    exact c
  ·unfold HalvesF
   rw [if_pos hp]
   by_cases c : p.fLen = wid p.fAddr.fV6
   ·rw [if_pos c]
    exact Tot.iteT rfl (Tot.bindOf awake_eq (Tot.some rfl))
   ·rw [if_neg c]
    have hlt : p.fLen < wid p.fAddr.fV6 := by have := hp.len1; omega
    obtain ⟨c1, c2⟩ := half_cov hp hlt
    refine Tot.iteF rfl (Tot.bindT (lg_L1 (l := l) l1 (by omega) hp (r := (loH p, hiH p, 0)) ⟨(loH_V hp hlt).addr, c1⟩ ⟨(hiH_V hp hlt).addr, c2⟩) ?_)
    rintro _ rfl
    exact Tot.bindOf awake_eq (Tot.some rfl)
end Go.Proofs.YtgfoabcickjphaaDoor
