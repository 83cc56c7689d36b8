/- The law of long chains, in plain Lean. -/
import Derived.Test.YtgfoabcickjphaaDoorPureA
namespace Go.Proofs.YtgfoabcickjphaaDoor
open Go Go.Vc
def cc (r : api_Resources) (i : Nat) : api_Cert := api_Cert.mk ((i : Int) + 1) (if i = 0 then 1 else (i : Int)) 0 9 r
def cd (r : api_Resources) (i : Nat) : api_Cert := api_Cert.mk ((i : Int) + 1) (if i = 0 then 1 else (i : Int)) 0 3 r
theorem chain_L0 {r2 : api_Resources × exchangepointmake_Deck} {r3 : Int} {n : Nat} (hn : w64 (15 + r3) = n) (hl : n ≤ 100) : Tot (loop (exchangepointlaw22_OriginChains_L0 r2 r3) ((0 : Int), ([] : List api_Cert))) (fun l => l.length = n ∧ ∀ i, i < n → l[i]? = some (cc r2.1 i)) := by
 refine Tot.rng n (fun k (s : List api_Cert) => (((k : Nat) : Int), s)) (fun k l => l.length = k ∧ ∀ i, i < k → l[i]? = some (cc r2.1 i)) _ [] rfl ⟨rfl, fun i h => by omega⟩ (fun k s hk hs => ?_) (fun s hs => ?_)
 ·have hw : w64 ((k : Int) + 1) = (k : Int) + 1 := w64_id (by omega) (by omega)
  obtain ⟨s1, s2⟩ := hs
  unfold exchangepointlaw22_OriginChains_L0
  rw [hn]
  refine Tot.iteT (decide_eq_true (show (k : Int) < n by omega)) (Tot.chk (limB (by simp; omega)) (Tot.step (s ++ [cc r2.1 k]) ?_ ⟨by simp; omega, fun i hi => ?_⟩))
  ·rw [hw]
   have : maxI (1 : Int) (k : Int) = if k = 0 then 1 else (k : Int) := by unfold maxI; split <;> split <;> omega
   rw [this]
   rfl
  ·rcases Nat.lt_or_ge i k with c | c
   ·rw [List.getElem?_append_left (by omega)]; exact s2 i c
   ·have : i = k := by omega
    subst this
    rw [List.getElem?_append_right (by omega), s1, Nat.sub_self]
    rfl
 ·unfold exchangepointlaw22_OriginChains_L0
  rw [hn]
  exact Tot.iteF (decide_eq_false (show ¬ (n : Int) < n by omega)) (Tot.last hs)
theorem chain_tr {cs : List api_Cert} {r : api_Resources} {n k : Nat} (hr : VRes r) (h : ∀ i, i < n → cs[i]? = some (if i = k then cd r i else cc r i)) (hl : cs.length = n) (hn : 0 < n) : ∀ m i, Tr cs [1] 5 m i ↔ i ≤ m ∧ i < k ∧ i < n := by
 have fine : ∀ i, i < n → (Fine (if i = k then cd r i else cc r i) 5 ↔ i ≠ k) := fun i hi => by
  by_cases e : i = k
  ·rw [if_pos e]
   exact ⟨fun f => absurd (show (5 : Int) ≤ 3 from f.t) (by decide), fun f => (f e).elim⟩
  ·rw [if_neg e]
   exact ⟨fun _ => e, fun _ => ⟨show (0 : Int) ≤ 5 by decide, show (5 : Int) ≤ 9 by decide, hr⟩⟩
 have key : ∀ i, (if i = k then cd r i else cc r i).fKey = (i : Int) + 1 := fun i => by split <;> rfl
 have iss : ∀ i, (if i = k then cd r i else cc r i).fIssuer = if i = 0 then 1 else (i : Int) := fun i => by split <;> rfl
 have res : ∀ i, (if i = k then cd r i else cc r i).fResources = r := fun i => by split <;> rfl
 intro m
 induction m with
 | zero =>
  intro i
  constructor
  ·intro ht
   have hi : i < n := by rw [← hl]; exact tr_lt ht
   rw [tr_zero (h i hi), fine i hi, key, iss] at ht
   obtain ⟨h1, h2, h3⟩ := ht
   have : i = 0 := by split at h2 <;> omega
   omega
  ·rintro ⟨h1, h2, h3⟩
   have : i = 0 := by omega
   subst this
   rw [tr_zero (h 0 h3), fine 0 h3, key, iss]
   refine ⟨by omega, by simp, ?_⟩
   exact List.mem_singleton.2 rfl
 | succ m ih =>
  intro i
  constructor
  ·intro ht
   have hi : i < n := by rw [← hl]; exact tr_lt ht
   rw [tr_succ (h i hi), fine i hi, key, iss] at ht
   rcases ht with ht | ⟨h1, h2, j, d, hj, h3, h4, _⟩
   ·have := (ih i).1 ht; omega
   ·have hjn : j < n := by rw [← hl]; exact tr_lt h3
    rw [h j hjn] at hj
    cases hj
    rw [key] at h4
    have := (ih j).1 h3
    split at h4 <;> omega
  ·rintro ⟨h1, h2, h3⟩
   rcases Nat.lt_or_ge m i with c | c
   ·rw [tr_succ (h i h3), fine i h3, key, iss]
    refine .inr ⟨by omega, by rw [if_neg (by omega)]; omega, i - 1, _, h (i - 1) (by omega), (ih (i - 1)).2 ⟨by omega, by omega, by omega⟩, ?_, ?_⟩
    ·rw [key, if_neg (by omega)]; omega
    ·unfold Sub cA cS
     rw [res, res]
     exact ⟨fun _ h => h, fun _ h => h⟩
   ·exact .up ((ih i).2 ⟨c, h2, h3⟩)
theorem chain_L1 {k n : Nat} {t : List Bool} (ht : t.length = n) (hl : n ≤ 100) (h : ∀ i, t[i]? = some true ↔ i ≤ 15 ∧ i < k ∧ i < n) : Tot (loop (exchangepointlaw22_OriginChains_L1 (k : Int) t) (0 : Int)) (fun x => x = .inr ()) := by
 refine Tot.rng t.length (fun k (_ : Unit) => ((k : Nat) : Int)) (fun _ _ => True) _ () rfl trivial (fun i _ hi _ => ?_) (fun _ _ => ?_)
 ·have hw : w64 ((i : Int) + 1) = ((i + 1 : Nat) : Int) := by rw [w64_id (by omega) (by omega)]; rfl
  unfold exchangepointlaw22_OriginChains_L1
  refine Tot.iteT (by simpa using hi) (Tot.bindIdx i rfl hi (Tot.iteF ?_ (Tot.step () (by rw [hw]) trivial)))
  have h1 := h i
  rw [List.getElem?_eq_getElem hi, Option.some.injEq] at h1
  rw [bne_eq_false_iff_eq]
  by_cases c : i ≤ 15 ∧ i < k
  ·rw [h1.2 ⟨c.1, c.2, by omega⟩, decide_eq_true (by omega), decide_eq_true (by omega)]
   rfl
  ·have h2 : t[i] = false := by
    cases e : t[i] with
    | false => rfl
    | true => have := h1.1 e; omega
   rw [h2]
   symm
   rw [Bool.and_eq_false_iff, decide_eq_false_iff_not, decide_eq_false_iff_not]
   omega
 ·unfold exchangepointlaw22_OriginChains_L1
  exact Tot.iteF (by simp) (Tot.last rfl)
theorem chains_law (a0 : List Int) (h0 : (∀ y ∈ a0, I64 y) ∧ a0.length ≤ maxLen) (a1 : Int) (_ : I64 a1) (a2 : Int) (_ : I64 a2) : exchangepointlaw22_OriginChains a0 a1 a2 = some true := by
 refine Tot.eq ?_
 unfold maxLen at h0
 unfold exchangepointlaw22_OriginChains
 refine Tot.bindOf (show exchangepointmake_New a0 = some ⟨a0, 0⟩ from rfl) (Tot.bindT (dres_tot _ (new_ok a0 (by omega))) fun r hr => ?_)
 obtain ⟨⟨hv, n1, n2⟩, hd⟩ := hr
 have m1 := Int.emod_nonneg a1 (show (4 : Int) ≠ 0 by omega)
 have m2 := Int.emod_lt_of_pos a1 (show (0 : Int) < 4 by omega)
 obtain ⟨n, hn⟩ : ∃ n : Nat, 15 + a1 % 4 = n := ⟨(15 + a1 % 4).toNat, by omega⟩
 refine Tot.bindOf (mod_eq a1 4 (by decide) (by decide)) (Tot.bindT (chain_L0 (n := n) (by rw [w64_id (by omega) (by omega), hn]) (by omega)) fun l hl => ?_)
 obtain ⟨l1, l2⟩ := hl
 have q1 := Int.emod_nonneg a2 (show (2 * (n : Int)) ≠ 0 by omega)
 obtain ⟨k, hk⟩ : ∃ k : Nat, a2 % (2 * (n : Int)) = k := ⟨(a2 % (2 * (n : Int))).toNat, by omega⟩
 refine Tot.bindOf (x := (k : Int)) (by rw [l1, w64_id (by omega) (by omega), mod_eq a2 _ (by omega) (by omega), hk]) ?_
 refine Tot.jnR (fun cs : List api_Cert => cs.length = n ∧ ∀ i, i < n → cs[i]? = some (if i = k then cd r.1 i else cc r.1 i)) (fun j hj => Tot.ite (fun h => ?_) (fun h => hj _ ⟨l1, fun i hi => ?_⟩)) (fun cs hcs => ?_)
 ·have h := of_decide_eq_true h
  have hkl : k < l.length := by omega
  refine Tot.bindIdx k rfl hkl (Tot.bindIdx k rfl hkl ?_)
  have e := l2 k (by omega)
  rw [List.getElem?_eq_getElem hkl] at e
  rw [Option.some.inj e]
  simp only [Int.toNat_natCast]
  refine hj _ ⟨by rw [List.length_set]; exact l1, fun i hi => ?_⟩
  rw [List.getElem?_set]
  by_cases c : k = i
  ·subst c
   rw [if_pos rfl, if_pos hkl, if_pos rfl]
   rfl
  ·rw [if_neg c, if_neg (fun e => c e.symm)]
   exact l2 i hi
 ·have h := of_decide_eq_false h
  rw [if_neg (by omega)]
  exact l2 i hi
 ·obtain ⟨c1, c2⟩ := hcs
  have hraw : ∀ c ∈ cs, Raw c.fResources := fun c hc => by
   obtain ⟨i, hi, rfl⟩ := List.getElem_of_mem hc
   have e := c2 i (by omega)
   rw [List.getElem?_eq_getElem hi] at e
   rw [Option.some.inj e]
   have : (if i = k then cd r.1 i else cc r.1 i).fResources = r.1 := by split <;> rfl
   rw [this]
   exact raw_of hv
  refine Tot.bindT (trusted_tot (now := 5) hraw (by omega) (an := [1]) (by simp)) fun t ht => Tot.iteF (by simp [ht.1]) (Tot.bindT (chain_L1 (k := k) (n := n) (by rw [ht.1, c1]) (by omega) fun i => (ht.2 i).trans (chain_tr hv c2 c1 (by omega) 15 i)) ?_)
  rintro _ rfl
  exact Tot.bindOf awake_eq (Tot.some rfl)
end Go.Proofs.YtgfoabcickjphaaDoor
