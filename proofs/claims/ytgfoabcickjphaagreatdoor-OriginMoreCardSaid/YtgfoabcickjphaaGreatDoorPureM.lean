/- More certificates, anchors and time make nothing untrusted, in plain Lean. -/
import Derived.Test.YtgfoabcickjphaaGreatDoorPureD
namespace Go.Proofs.YtgfoabcickjphaaGreatDoor
open Go Go.Vc
structure Later (c d : api_Cert) : Prop where
 k : d.fKey = c.fKey
 i : d.fIssuer = c.fIssuer
 f : d.fFrom = c.fFrom
 r : d.fResources = c.fResources
 u : c.fUntil ≤ d.fUntil
theorem tr_more {cs ds : List api_Cert} {an bn : List Int} {now : Int} (h : ∀ (i : Nat) (c : api_Cert), cs[i]? = some c → Fine c now → ∃ d, ds[i]? = some d ∧ Later c d) (ha : ∀ x ∈ an, x ∈ bn) {m i : Nat} (ht : Tr cs an now m i) : Tr ds bn now m i := by
 have fine : ∀ {c d : api_Cert}, Later c d → Fine c now → Fine d now := fun l f => ⟨by rw [l.f]; exact f.f, Int.le_trans f.t l.u, by rw [l.r]; exact f.v⟩
 induction ht with
 | base h1 h2 h3 h4 =>
  obtain ⟨d, e, l⟩ := h _ _ h1 h2
  exact .base e (fine l h2) (by rw [l.i, l.k]; exact h3) (by rw [l.k]; exact ha _ h4)
 | up _ ih => exact .up ih
 | iss h1 h2 h3 h4 h5 h6 h7 ih =>
  obtain ⟨c', e1, f1⟩ := tr_fine h5
  rw [h2] at e1
  cases e1
  obtain ⟨d, e, l⟩ := h _ _ h1 h3
  obtain ⟨d2, e2, l2⟩ := h _ _ h2 f1
  refine .iss e e2 (fine l h3) (by rw [l.i, l.k]; exact h4) ih (by rw [l2.k, l.i]; exact h6) ?_
  unfold Sub cA cS at *
  rw [l.r, l2.r]
  exact h7
theorem tr_kept {cs ks : List api_Cert} {an : List Int} {now : Int} (M : Nat) (h : ∀ (i : Nat) (c : api_Cert), cs[i]? = some c → Tr cs an now M i → ∃ j : Nat, ks[j]? = some c) {m i : Nat} (hm : m ≤ M) (ht : Tr cs an now m i) : ∀ (c : api_Cert) (j : Nat), cs[i]? = some c → ks[j]? = some c → Tr ks an now m j := by
 induction ht with
 | base h1 h2 h3 h4 =>
  intro c j hc hk
  rw [h1] at hc
  cases hc
  exact .base hk h2 h3 h4
 | up _ ih => exact fun c j hc hk => .up (ih (by omega) c j hc hk)
 | @iss k i j c d h1 h2 h3 h4 h5 h6 h7 ih =>
  intro c' j' hc hk
  rw [h1] at hc
  cases hc
  obtain ⟨j2, e2⟩ := h j d h2 (by
   have := tr_mono h5 (M - k)
   rwa [show k + (M - k) = M from by omega] at this)
  exact .iss hk e2 h3 h4 (ih (by omega) d j2 h2 e2) h6 h7
theorem more_L0 {a3 : Int} {r2 : List api_Cert × List api_Signed × Int × exchangepointmake_Deck} {r5 : List api_Cert × exchangepointmake_Deck} (hl : (r2.1 ++ r5.1).length ≤ 100) :
  Tot (loop (exchangepointlaw22_OriginMore_L0 a3 r2 r5) ((0 : Int), (r2.1 ++ r5.1))) (fun l => l.length = (r2.1 ++ r5.1).length ∧ ∀ (i : Nat) (c : api_Cert), (r2.1 ++ r5.1)[i]? = some c → l[i]? = some (api_Cert.mk c.fKey c.fIssuer c.fFrom (w64 (c.fUntil + a3 % 5)) c.fResources)) := by
 refine Tot.rng (r2.1 ++ r5.1).length (fun k (s : List api_Cert) => (((k : Nat) : Int), s)) (fun k l => l.length = (r2.1 ++ r5.1).length ∧ (∀ (i : Nat) (c : api_Cert), i < k → (r2.1 ++ r5.1)[i]? = some c → l[i]? = some (api_Cert.mk c.fKey c.fIssuer c.fFrom (w64 (c.fUntil + a3 % 5)) c.fResources)) ∧ ∀ i, k ≤ i → l[i]? = (r2.1 ++ r5.1)[i]?) _ (r2.1 ++ r5.1) rfl ⟨rfl, fun i c h _ => by omega, fun _ _ => rfl⟩ (fun k s hk hs => ?_) (fun s hs => ?_)
 ·obtain ⟨s1, s2, s3⟩ := hs
  have hw : w64 ((k : Int) + 1) = ((k + 1 : Nat) : Int) := by rw [w64_id (by omega) (by omega)]; rfl
  have hk1 : k < s.length := by omega
  unfold exchangepointlaw22_OriginMore_L0
  refine Tot.iteT (decide_eq_true (show (k : Int) < _ by omega)) (Tot.bindIdx k rfl hk1 (Tot.bindIdx k rfl hk1 (Tot.bindOf (mod_eq a3 5 (by decide) (by decide)) (Tot.bindIdx k rfl hk1 (Tot.bindIdx k rfl hk1 ?_)))))
  simp only [Int.toNat_natCast]
  refine Tot.step (s.set k (api_Cert.mk s[k].fKey s[k].fIssuer s[k].fFrom (w64 (s[k].fUntil + a3 % 5)) s[k].fResources)) (by rw [hw]) ⟨by rw [List.length_set]; exact s1, fun i c hi hc => ?_, fun i hi => ?_⟩
  ·rw [List.getElem?_set]
   by_cases e : k = i
   ·subst e
    have := s3 k (Nat.le_refl _)
    rw [hc, List.getElem?_eq_getElem hk1] at this
    rw [if_pos rfl, if_pos hk1, Option.some.inj this]
   ·rw [if_neg e]
    exact s2 i c (by omega) hc
  ·rw [List.getElem?_set, if_neg (by omega)]
   exact s3 i (by omega)
 ·obtain ⟨s1, s2, s3⟩ := hs
  unfold exchangepointlaw22_OriginMore_L0
  exact Tot.iteF (decide_eq_false (show ¬ (((r2.1 ++ r5.1).length : Nat) : Int) < _ by omega)) (Tot.last ⟨s1, fun i c hc => s2 i c (List.getElem?_eq_some_iff.1 hc).1 hc⟩)
theorem more_L1 {r2 : List api_Cert × List api_Signed × Int × exchangepointmake_Deck} {x y : List Bool} (hx : x.length = r2.1.length) (hy : x.length ≤ y.length) (hl : r2.1.length ≤ 100) (h : ∀ i : Nat, x[i]? = some true → y[i]? = some true) :
  Tot (loop (exchangepointlaw22_OriginMore_L1 r2 x y) ((0 : Int), ([] : List api_Cert))) (fun z => ∃ ks, z = .inr ks ∧ ks.length ≤ 100 ∧ (∀ c ∈ ks, ∃ i : Nat, x[i]? = some true ∧ r2.1[i]? = some c) ∧ ∀ (i : Nat) (c : api_Cert), x[i]? = some true → r2.1[i]? = some c → ∃ j : Nat, ks[j]? = some c) := by
 refine Tot.rng x.length (fun k (s : List api_Cert) => (((k : Nat) : Int), s)) (fun k ks => ks.length ≤ k ∧ (∀ c ∈ ks, ∃ i : Nat, x[i]? = some true ∧ r2.1[i]? = some c) ∧ ∀ (i : Nat) (c : api_Cert), i < k → x[i]? = some true → r2.1[i]? = some c → ∃ j : Nat, ks[j]? = some c) _ [] rfl ⟨Nat.le_refl _, fun c hc => (by cases hc), fun i c hi => by omega⟩ (fun k s hk hs => ?_) (fun s hs => ?_)
 ·obtain ⟨s1, s2, s3⟩ := hs
  have hw : w64 ((k : Int) + 1) = ((k + 1 : Nat) : Int) := by rw [w64_id (by omega) (by omega)]; rfl
  have hky : k < y.length := by omega
  have hkr : k < r2.1.length := by omega
  have hxk : x[k]? = some x[k] := List.getElem?_eq_getElem hk
  unfold exchangepointlaw22_OriginMore_L1
  refine Tot.iteT (by simpa using hk) (Tot.bindIdx k rfl hk (Tot.jnR (fun m : Bool => m = false) (fun j hj => Tot.ite (fun e => Tot.bindIdx k rfl hky (hj _ ?_)) (fun _ => hj _ rfl)) (fun m hm => Tot.iteF hm (Tot.jnR (fun ks : List api_Cert => (x[k] = true → ks = s ++ [r2.1[k]]) ∧ (x[k] = false → ks = s)) (fun j hj => Tot.ite (fun e => Tot.bindIdx k rfl hkr ?_) (fun e => hj _ ⟨fun e2 => (by rw [e] at e2; cases e2), fun _ => rfl⟩)) (fun ks hks => ?_)))))
  ·have := h k (by rw [hxk, e])
   rw [List.getElem?_eq_getElem hky] at this
   rw [Option.some.inj this]; rfl
  ·have hlen : (s ++ [r2.1[k]]).length = s.length + 1 := by simp
   exact Tot.chk (limB (show (s ++ [r2.1[k]]).length ≤ 4000000000 by omega)) (hj _ ⟨fun _ => rfl, fun e2 => (by rw [e] at e2; cases e2)⟩)
  ·refine Tot.step ks (by rw [hw]) ?_
   cases e : x[k] with
   | true =>
    rw [hks.1 e]
    refine ⟨by simp; omega, fun c hc => ?_, fun i c hi h1 h2 => ?_⟩
    ·rcases List.mem_append.1 hc with g | g
     ·exact s2 c g
     ·exact ⟨k, by rw [hxk, e], by rw [List.mem_singleton.1 g]; exact List.getElem?_eq_getElem hkr⟩
    ·rcases Nat.lt_or_ge i k with g | g
     ·obtain ⟨j, hj⟩ := s3 i c g h1 h2
      exact ⟨j, by rw [List.getElem?_append_left (List.getElem?_eq_some_iff.1 hj).1]; exact hj⟩
     ·have : i = k := by omega
      subst this
      rw [List.getElem?_eq_getElem hkr] at h2
      exact ⟨s.length, by rw [List.getElem?_append_right (Nat.le_refl _), Nat.sub_self]; exact h2⟩
   | false =>
    rw [hks.2 e]
    refine ⟨by omega, s2, fun i c hi h1 h2 => ?_⟩
    rcases Nat.lt_or_ge i k with g | g
    ·exact s3 i c g h1 h2
    ·have : i = k := by omega
     subst this
     rw [hxk, e] at h1
     cases h1
 ·obtain ⟨s1, s2, s3⟩ := hs
  unfold exchangepointlaw22_OriginMore_L1
  exact Tot.iteF (by simp) (Tot.last ⟨s, rfl, by omega, s2, fun i c h1 h2 => s3 i c (List.getElem?_eq_some_iff.1 h1).1 h1 h2⟩)
theorem more_L2 {t : List Bool} (hl : t.length ≤ 1000000) (h : ∀ i : Nat, i < t.length → t[i]? = some true) : Tot (loop (exchangepointlaw22_OriginMore_L2 t) (0 : Int)) (fun x => x = .inr ()) := by
 refine Tot.rng t.length (fun k (_ : Unit) => ((k : Nat) : Int)) (fun _ _ => True) _ () rfl trivial (fun i _ hi _ => ?_) (fun _ _ => ?_)
 ·have hw : w64 ((i : Int) + 1) = ((i + 1 : Nat) : Int) := by rw [w64_id (by omega) (by omega)]; rfl
  have := h i hi
  rw [List.getElem?_eq_getElem hi] at this
  unfold exchangepointlaw22_OriginMore_L2
  exact Tot.iteT (by simpa using hi) (Tot.bindIdx i rfl hi (Tot.iteF (by rw [Option.some.inj this]; rfl) (Tot.step () (by rw [hw]) trivial)))
 ·unfold exchangepointlaw22_OriginMore_L2
  exact Tot.iteF (by simp) (Tot.last rfl)
theorem more_law (a0 : List Int) (h0 : (∀ y ∈ a0, I64 y) ∧ a0.length ≤ maxLen) (a1 : List Int) (h1 : (∀ y ∈ a1, I64 y) ∧ a1.length ≤ maxLen) (a2 : Int) (_ : I64 a2) (a3 : Int) (_ : I64 a3) : exchangepointlaw22_OriginMore a0 a1 a2 a3 = some true := by
 refine Tot.eq ?_
 unfold maxLen at h0 h1
 unfold exchangepointlaw22_OriginMore
 refine Tot.bindOf (show exchangepointmake_New a0 = some ⟨a0, 0⟩ from rfl) (Tot.bindT (setting_tot _ (new_ok a0 (by omega))) fun r hr => ?_)
 obtain ⟨⟨c1, c2⟩, _, _, _⟩ := hr
 refine Tot.chk (limB (by omega)) (Tot.bindOf (show exchangepointmake_New a1 = some ⟨a1, 0⟩ from rfl) (Tot.bindT (certs_tot _ (new_ok a1 (by omega))) fun r5 hr5 => ?_))
 obtain ⟨⟨d1, d2⟩, _⟩ := hr5
 have hlen : (r.1 ++ r5.1).length = r.1.length + r5.1.length := List.length_append
 have hall : CsOk (r.1 ++ r5.1) := fun c hc => (List.mem_append.1 hc).elim (c1 c) (d1 c)
 refine Tot.chk (limB (by omega)) (Tot.bindT (more_L0 (r2 := r) (r5 := r5) (by omega)) fun l hl => Tot.bindT (anchors_tot a2) fun an han => ?_)
 obtain ⟨l1, l2⟩ := hl
 have m1 := Int.emod_nonneg a3 (show (5 : Int) ≠ 0 by omega)
 have m2 := Int.emod_lt_of_pos a3 (show (0 : Int) < 5 by omega)
 have lraw : ∀ c ∈ l, Raw c.fResources := fun c hc => by
  obtain ⟨i, hi, rfl⟩ := List.getElem_of_mem hc
  have hi2 : i < (r.1 ++ r5.1).length := by omega
  have e := l2 i _ (List.getElem?_eq_getElem hi2)
  rw [List.getElem?_eq_getElem hi] at e
  rw [Option.some.inj e]
  exact raw_of (hall _ (List.getElem_mem hi2)).1
 refine Tot.bindT (trusted_tot (now := r.2.2.1) (cs_raw c1) (by omega) (by omega)) fun x hx => ?_
 refine Tot.chk (limB (by omega)) (Tot.chk (limB (by simp; omega)) (Tot.bindT (trusted_tot (now := r.2.2.1) lraw (by omega) (by simp; omega)) fun y hy => ?_))
 obtain ⟨x1, x2⟩ := hx
 obtain ⟨y1, y2⟩ := hy
 refine Tot.iteF (by rw [x1, y1]; simp) ?_
 have up : ∀ i : Nat, x[i]? = some true → y[i]? = some true := fun i hi => by
  rw [y2]
  refine tr_more (fun i c hc _ => ?_) (fun z hz => List.mem_append_left _ hz) ((x2 i).1 hi)
  have hi2 : i < r.1.length := (List.getElem?_eq_some_iff.1 hc).1
  have e := l2 i c (by rw [List.getElem?_append_left hi2]; exact hc)
  have hcm : c ∈ r.1 := List.mem_of_getElem? hc
  have hu := (c1 c hcm).2
  refine ⟨_, e, rfl, rfl, rfl, rfl, ?_⟩
  simp only
  rw [w64_id (by omega) (by omega)]
  omega
 refine Tot.bindT (more_L1 (r2 := r) x1 (by omega) (by omega) up) ?_
 rintro _ ⟨ks, rfl, k1, k2, k3⟩
 have kraw : ∀ c ∈ ks, Raw c.fResources := fun c hc => by
  obtain ⟨i, _, hi⟩ := k2 c hc
  exact cs_raw c1 c (List.mem_of_getElem? hi)
 refine Tot.bindT (trusted_tot (now := r.2.2.1) kraw (by omega) (by omega)) fun t ht => Tot.bindT (more_L2 (by have := ht.1; omega) fun j hj => ?_) ?_
 ·rw [ht.2]
  have hj2 : j < ks.length := by have := ht.1; omega
  obtain ⟨i, g1, g2⟩ := k2 _ (List.getElem_mem hj2)
  exact tr_kept 15 (fun i c hc hi => k3 i c ((x2 i).2 hi) hc) (Nat.le_refl _) ((x2 i).1 g1) _ j g2 (List.getElem?_eq_getElem hj2)
 ·rintro _ rfl
  exact Tot.bindOf awake_eq (Tot.some rfl)
end Go.Proofs.YtgfoabcickjphaaGreatDoor
