/- Which certificates the code trusts, in plain Lean. -/
import Derived.Test.YtgfoabcickjphaaDoorPureZC
namespace Go.Proofs.YtgfoabcickjphaaDoor
open Go Go.Vc
theorem contains_tot {l : List Int} {x : Int} (hl : l.length ≤ 1000000000) : Tot (slices_Contains l x) (fun b => b = true ↔ x ∈ l) := by
 unfold slices_Contains slices_Index
 refine Tot.bindT (P' := fun i : Int => (0 ≤ i ∧ x ∈ l) ∨ (i = -1 ∧ ¬ x ∈ l)) ?_ fun i hi => Tot.some ?_
 ·refine Tot.bindRng l.length (fun k (_ : Unit) => ((k : Nat) : Int)) (fun k _ => ¬ x ∈ l.take k) (fun y => match y with | .inl i => 0 ≤ i ∧ x ∈ l | .inr _ => ¬ x ∈ l) () rfl (by simp) (fun k b hk hb => ?_) (fun b hb => ?_) (fun y hy => ?_)
  ·unfold slices_Index_L0
   have hw : w64 ((k : Int) + 1) = ((k + 1 : Nat) : Int) := by rw [w64_id (by omega) (by omega)]; rfl
   refine Tot.iteT (by simpa using hk) (Tot.bindIdx k rfl hk (Tot.ite (fun h => Tot.stop ⟨by omega, ?_⟩) (fun h => Tot.step () (by rw [hw]) fun hm => ?_)))
   ·rw [beq_iff_eq.1 h]; exact List.getElem_mem hk
   ·rw [take_snoc hk] at hm
    rcases List.mem_append.1 hm with hm | hm
    ·exact hb hm
    ·exact (beq_eq_false_iff_ne.1 h) (List.mem_singleton.1 hm)
  ·unfold slices_Index_L0
   refine Tot.iteF (by simp) (Tot.last ?_)
   rw [List.take_length] at hb
   exact hb
  ·cases y with
   | inl i => exact Tot.some (.inl hy)
   | inr _ => exact Tot.some (.inr ⟨rfl, hy⟩)
 ·rcases hi with ⟨h1, h2⟩ | ⟨h1, h2⟩
  ·rw [decide_eq_true h1]
   exact ⟨fun _ => h2, fun _ => rfl⟩
  ·subst h1
   exact ⟨fun e => absurd e (by decide), fun e => (h2 e).elim⟩
structure Raw (r : api_Resources) : Prop where
 R : RRes r
 la : r.fAddrs.length ≤ 1000000
 ls : r.fASNs.length ≤ 1000000
structure Fine (c : api_Cert) (now : Int) : Prop where
 f : c.fFrom ≤ now
 t : now ≤ c.fUntil
 v : VRes c.fResources
def Sub (d c : api_Cert) : Prop := (∀ n, cA c.fResources n → cA d.fResources n) ∧ (∀ n, cS c.fResources n → cS d.fResources n)
inductive Tr (cs : List api_Cert) (an : List Int) (now : Int) : Nat → Nat → Prop
 | base {i : Nat} {c : api_Cert} : cs[i]? = some c → Fine c now → c.fIssuer = c.fKey → c.fKey ∈ an → Tr cs an now 0 i
 | up {k i : Nat} : Tr cs an now k i → Tr cs an now (k + 1) i
 | iss {k i j : Nat} {c d : api_Cert} : cs[i]? = some c → cs[j]? = some d → Fine c now → c.fIssuer ≠ c.fKey → Tr cs an now k j → d.fKey = c.fIssuer → Sub d c → Tr cs an now (k + 1) i
section
variable {cs : List api_Cert} {an : List Int} {now : Int}
theorem tr_fine {k i : Nat} (h : Tr cs an now k i) : ∃ c, cs[i]? = some c ∧ Fine c now := by
 induction h with
 | base h1 h2 _ _ => exact ⟨_, h1, h2⟩
 | up _ ih => exact ih
 | iss h1 _ h3 _ _ _ _ _ => exact ⟨_, h1, h3⟩
theorem tr_lt {k i : Nat} (h : Tr cs an now k i) : i < cs.length := by
 obtain ⟨c, hc, _⟩ := tr_fine h
 exact (List.getElem?_eq_some_iff.1 hc).1
theorem tr_zero {i : Nat} {c : api_Cert} (hc : cs[i]? = some c) : Tr cs an now 0 i ↔ Fine c now ∧ c.fIssuer = c.fKey ∧ c.fKey ∈ an := by
 constructor
 ·intro h
  cases h with
  | base h1 h2 h3 h4 =>
   rw [hc] at h1
   cases h1
   exact ⟨h2, h3, h4⟩
 ·rintro ⟨h2, h3, h4⟩
  exact .base hc h2 h3 h4
theorem tr_succ {k i : Nat} {c : api_Cert} (hc : cs[i]? = some c) : Tr cs an now (k + 1) i ↔ Tr cs an now k i ∨ (Fine c now ∧ c.fIssuer ≠ c.fKey ∧ ∃ j d, cs[j]? = some d ∧ Tr cs an now k j ∧ d.fKey = c.fIssuer ∧ Sub d c) := by
 constructor
 ·intro h
  cases h with
  | up h => exact .inl h
  | iss h1 h2 h3 h4 h5 h6 h7 =>
   rw [hc] at h1
   cases h1
   exact .inr ⟨h3, h4, _, _, h2, h5, h6, h7⟩
 ·rintro (h | ⟨h3, h4, j, d, h2, h5, h6, h7⟩)
  ·exact .up h
  ·exact .iss hc h2 h3 h4 h5 h6 h7
theorem tr_mono {k i : Nat} (h : Tr cs an now k i) : ∀ m, Tr cs an now (k + m) i
 | 0 => h
 | m + 1 => .up (tr_mono h m)
theorem tr_fix {k : Nat} (h : ∀ i, Tr cs an now (k + 1) i → Tr cs an now k i) : ∀ m i, Tr cs an now (k + m) i → Tr cs an now k i
 | 0, _, h0 => h0
 | m + 1, i, h1 => by
  have h1 : Tr cs an now ((k + m) + 1) i := h1
  cases h1 with
  | up h2 => exact tr_fix h m i h2
  | iss a1 a2 a3 a4 a5 a6 a7 => exact h i (.iss a1 a2 a3 a4 (tr_fix h m _ a5) a6 a7)
theorem bset {l : List Bool} {k : Nat} (hk : k < l.length) (b : Bool) (j : Nat) : (l.set k b)[j]? = if k = j then some b else l[j]? := by
 rw [List.getElem?_set]
 by_cases e : k = j
 ·rw [if_pos e, if_pos e, if_pos (e ▸ hk)]
 ·rw [if_neg e, if_neg e]
theorem issued_tot {t : List Bool} {m : Nat} (hl : cs.length ≤ 1000000) (ht : t.length = cs.length) (htr : ∀ i, t[i]? = some true ↔ Tr cs an now m i) {c : api_Cert} (hc : VRes c.fResources) :
  Tot (origin_issued cs t c) (fun b => b = true ↔ ∃ j d, cs[j]? = some d ∧ Tr cs an now m j ∧ d.fKey = c.fIssuer ∧ Sub d c) := by
 unfold origin_issued
 refine Tot.bindRng cs.length (fun k (_ : Unit) => ((k : Nat) : Int)) (fun k _ => ¬ ∃ j d, j < k ∧ cs[j]? = some d ∧ Tr cs an now m j ∧ d.fKey = c.fIssuer ∧ Sub d c) (fun x => match x with | .inl _ => ∃ j d, cs[j]? = some d ∧ Tr cs an now m j ∧ d.fKey = c.fIssuer ∧ Sub d c | .inr _ => ¬ ∃ j d, cs[j]? = some d ∧ Tr cs an now m j ∧ d.fKey = c.fIssuer ∧ Sub d c) () rfl (by rintro ⟨j, d, h, _⟩; omega) (fun k b hk hb => ?_) (fun b hb => ?_) (fun x hx => ?_)
 ·have hw : w64 ((k : Int) + 1) = ((k + 1 : Nat) : Int) := by rw [w64_id (by omega) (by omega)]; rfl
  have hkt : k < t.length := by omega
  have hcs : cs[k]? = some cs[k] := List.getElem?_eq_getElem hk
  unfold origin_issued_L0
  refine Tot.iteT (by simpa using hk) (Tot.bindIdx k rfl hk (Tot.jnR (fun b : Bool => b = true ↔ Tr cs an now m k ∧ cs[k].fKey = c.fIssuer ∧ Sub cs[k] c) (fun j hj => Tot.bindIdx k rfl hkt (Tot.ite (fun h => ?_) (fun h => hj _ ?_))) (fun b hb2 => Tot.ite (fun h => Tot.stop ⟨k, _, hcs, hb2.1 h⟩) (fun h => Tot.step () (by rw [hw]) ?_))))
  ·simp only [Bool.and_eq_true, beq_iff_eq] at h
   have hk1 := (htr k).1 (by rw [List.getElem?_eq_getElem hkt, h.1])
   obtain ⟨d, e1, e2⟩ := tr_fine hk1
   rw [hcs] at e1
   cases e1
   refine Tot.bindT (covers_tot e2.v hc) fun b hb3 => hj _ ?_
   rw [hb3]
   exact ⟨fun e => ⟨hk1, h.2, e⟩, fun e => e.2.2⟩
  ·refine ⟨fun e => (by cases e), fun e => ?_⟩
   have h1 := (htr k).2 e.1
   rw [List.getElem?_eq_getElem hkt] at h1
   rw [Option.some.inj h1, e.2.1] at h
   simp at h
  ·rintro ⟨j, d, h1, h2, h3⟩
   rcases Nat.lt_or_ge j k with c | c
   ·exact hb ⟨j, d, c, h2, h3⟩
   ·have : j = k := by omega
    subst this
    rw [hcs] at h2
    cases h2
    rw [hb2.2 h3] at h
    cases h
 ·unfold origin_issued_L0
  refine Tot.iteF (by simp) (Tot.last ?_)
  rintro ⟨j, d, h⟩
  exact hb ⟨j, d, tr_lt h.2.1, h⟩
 ·cases x with
  | inl _ => exact Tot.some ⟨fun _ => hx, fun _ => rfl⟩
  | inr _ => exact Tot.some ⟨fun e => (by cases e), fun e => (hx e).elim⟩
theorem trust_L0 (hr : ∀ c ∈ cs, Raw c.fResources) (hl : cs.length ≤ 1000000) (ha : an.length ≤ 1000000000) :
  Tot (loop (origin_Trusted_L0 cs an now) ((0 : Int), (List.replicate cs.length false), (List.replicate cs.length false))) (fun p => p.1.length = cs.length ∧ p.2.length = cs.length ∧ (∀ (i : Nat) (c : api_Cert), cs[i]? = some c → (p.1[i]? = some true ↔ Fine c now)) ∧ ∀ i, p.2[i]? = some true ↔ Tr cs an now 0 i) := by
 refine Tot.rng cs.length (fun k (s : List Bool × List Bool) => (((k : Nat) : Int), s.1, s.2)) (fun k p => p.1.length = cs.length ∧ p.2.length = cs.length ∧ (∀ (i : Nat) (c : api_Cert), i < k → cs[i]? = some c → (p.1[i]? = some true ↔ Fine c now)) ∧ ∀ i, i < k → (p.2[i]? = some true ↔ Tr cs an now 0 i)) _ (List.replicate cs.length false, List.replicate cs.length false) rfl ⟨by simp, by simp, fun i c h _ => by omega, fun i h => by omega⟩ (fun k s hk hs => ?_) (fun s hs => ?_)
 ·obtain ⟨s1, s2, s3, s4⟩ := hs
  have hw : w64 ((k : Int) + 1) = ((k + 1 : Nat) : Int) := by rw [w64_id (by omega) (by omega)]; rfl
  have hk1 : k < s.1.length := by omega
  have hk2 : k < s.2.length := by omega
  have hcs : cs[k]? = some cs[k] := List.getElem?_eq_getElem hk
  have hraw := hr _ (List.getElem_mem hk)
  unfold origin_Trusted_L0
  refine Tot.iteT (by simpa using hk) (Tot.bindIdx k rfl hk (Tot.jnR (fun m : List Bool => ∃ b, m = s.1.set k b ∧ (b = true ↔ Fine cs[k] now)) (fun j hj => ?_) (fun m hm => ?_)))
  ·refine Tot.bindOf (show origin_current cs[k].fFrom cs[k].fUntil now = some _ from rfl) (Tot.ite (fun h => ?_) (fun h => ?_))
   ·simp only [Bool.and_eq_true, decide_eq_true_eq] at h
    refine Tot.bindT (valid_eq hraw.R hraw.la hraw.ls) fun b hb => Tot.bindIdx k rfl hk1 (Tot.bindIdx k rfl hk1 (hj _ ⟨b, rfl, ?_⟩))
    rw [hb]
    exact ⟨fun e => ⟨h.1, h.2, e⟩, fun e => e.v⟩
   ·refine Tot.bindIdx k rfl hk1 (Tot.bindIdx k rfl hk1 (hj _ ⟨false, rfl, fun e => (by cases e), fun e => ?_⟩))
    rw [decide_eq_true e.f, decide_eq_true e.t] at h
    cases h
  ·obtain ⟨b, rfl, hb⟩ := hm
   have hk3 : k < (s.1.set k b).length := by rw [List.length_set]; exact hk1
   have hget : (s.1.set k b)[k] = b := List.getElem_set_self _
   have key : ∀ b2 : Bool, (b2 = true ↔ Tr cs an now 0 k) → (s.1.set k b).length = cs.length ∧ (s.2.set k b2).length = cs.length ∧ (∀ (i : Nat) (c : api_Cert), i < k + 1 → cs[i]? = some c → ((s.1.set k b)[i]? = some true ↔ Fine c now)) ∧ ∀ i, i < k + 1 → ((s.2.set k b2)[i]? = some true ↔ Tr cs an now 0 i) := fun b2 h2 => by
    refine ⟨by rw [List.length_set]; exact s1, by rw [List.length_set]; exact s2, fun i c hi hc => ?_, fun i hi => ?_⟩
    ·rw [bset hk1]
     by_cases e : k = i
     ·subst e
      rw [hcs] at hc
      cases hc
      rw [if_pos rfl, Option.some.injEq]
      exact hb
     ·rw [if_neg e]
      exact s3 i c (by omega) hc
    ·rw [bset hk2]
     by_cases e : k = i
     ·subst e
      rw [if_pos rfl, Option.some.injEq]
      exact h2
     ·rw [if_neg e]
      exact s4 i (by omega)
   refine Tot.jnR (fun m : List Bool => ∃ b2, m = s.2.set k b2 ∧ (b2 = true ↔ Tr cs an now 0 k)) (fun j hj => ?_) (fun m hm => ?_)
   ·refine Tot.bindIdx k rfl hk3 (Tot.bindIdx k rfl hk3 ?_)
    rw [hget]
    refine Tot.ite (fun h => ?_) (fun h => ?_)
    ·simp only [Bool.and_eq_true, beq_iff_eq] at h
     refine Tot.bindT (contains_tot ha) fun c hc => Tot.bindIdx k rfl hk2 (Tot.bindIdx k rfl hk2 (hj _ ⟨c, rfl, ?_⟩))
     rw [hc, tr_zero hcs]
     exact ⟨fun e => ⟨hb.1 h.1, h.2, e⟩, fun e => e.2.2⟩
    ·refine Tot.bindIdx k rfl hk2 (Tot.bindIdx k rfl hk2 (hj _ ⟨false, rfl, fun e => (by cases e), fun e => ?_⟩))
     rw [tr_zero hcs] at e
     rw [hb.2 e.1, e.2.1] at h
     simp at h
   ·obtain ⟨b2, rfl, hb2⟩ := hm
    exact Tot.step (s.1.set k b, s.2.set k b2) (by rw [hw]) (key b2 hb2)
 ·obtain ⟨s1, s2, s3, s4⟩ := hs
  unfold origin_Trusted_L0
  refine Tot.iteF (by simp) (Tot.last ⟨s1, s2, fun i c hc => s3 i c (List.getElem?_eq_some_iff.1 hc).1 hc, fun i => ?_⟩)
  by_cases e : i < cs.length
  ·exact s4 i e
  ·simp only
   rw [List.getElem?_eq_none (by omega)]
   exact ⟨fun h => (by cases h), fun h => (e (tr_lt h)).elim⟩
theorem trust_L2 {p : List Bool × List Bool} {t : List Bool} {m : Nat} (hl : cs.length ≤ 1000000) (hp : p.1.length = cs.length) (hf : ∀ (i : Nat) (c : api_Cert), cs[i]? = some c → (p.1[i]? = some true ↔ Fine c now)) (ht : t.length = cs.length) (htr : ∀ i, t[i]? = some true ↔ Tr cs an now m i) :
  Tot (loop (origin_Trusted_L2 cs p t) ((0 : Int), t)) (fun o => o.length = cs.length ∧ ∀ i, o[i]? = some true ↔ Tr cs an now (m + 1) i) := by
 refine Tot.rng cs.length (fun k (s : List Bool) => (((k : Nat) : Int), s)) (fun k o => o.length = cs.length ∧ (∀ i, i < k → (o[i]? = some true ↔ Tr cs an now (m + 1) i)) ∧ ∀ i, k ≤ i → o[i]? = t[i]?) _ t rfl ⟨ht, fun i h => by omega, fun _ _ => rfl⟩ (fun k s hk hs => ?_) (fun s hs => ?_)
 ·obtain ⟨s1, s2, s3⟩ := hs
  have hw : w64 ((k : Int) + 1) = ((k + 1 : Nat) : Int) := by rw [w64_id (by omega) (by omega)]; rfl
  have hk1 : k < s.length := by omega
  have hkp : k < p.1.length := by omega
  have hcs : cs[k]? = some cs[k] := List.getElem?_eq_getElem hk
  have hsk : s[k] = true ↔ Tr cs an now m k := by
   rw [← htr, ← s3 k (Nat.le_refl _), List.getElem?_eq_getElem hk1, Option.some.injEq]
  have hfk : p.1[k] = true ↔ Fine cs[k] now := by
   rw [← hf k _ hcs, List.getElem?_eq_getElem hkp, Option.some.injEq]
  unfold origin_Trusted_L2
  refine Tot.iteT (by simpa using hk) (Tot.bindIdx k rfl hk (Tot.jnR (fun o : List Bool => ∃ b, o = s.set k b ∧ (b = true ↔ Tr cs an now (m + 1) k)) (fun j hj => ?_) (fun o ho => ?_)))
  ·refine Tot.bindIdx k rfl hk1 (Tot.bindIdx k rfl hk1 (Tot.ite (fun h => ?_) (fun h => ?_)))
   ·exact Tot.bindIdx k rfl hk1 (Tot.bindIdx k rfl hk1 (hj _ ⟨true, rfl, fun _ => .up (hsk.1 h), fun _ => rfl⟩))
   ·have hn : ¬ Tr cs an now m k := fun e => by rw [hsk.2 e] at h; cases h
    refine Tot.bindIdx k rfl hkp (Tot.bindIdx k rfl hkp (Tot.ite (fun h2 => ?_) (fun h2 => ?_)))
    ·simp only [Bool.and_eq_true, bne_iff_ne] at h2
     have hfine := hfk.1 h2.1
     refine Tot.bindT (issued_tot hl ht htr hfine.v) fun b hb => Tot.bindIdx k rfl hk1 (Tot.bindIdx k rfl hk1 (hj _ ⟨b, rfl, ?_⟩))
     rw [hb, tr_succ hcs]
     exact ⟨fun e => .inr ⟨hfine, h2.2, e⟩, fun e => (e.resolve_left hn).2.2⟩
    ·refine Tot.bindIdx k rfl hk1 (Tot.bindIdx k rfl hk1 (hj _ ⟨false, rfl, fun e => (by cases e), fun e => ?_⟩))
     rw [tr_succ hcs] at e
     have e := e.resolve_left hn
     rw [hfk.2 e.1] at h2
     simp [e.2.1] at h2
  ·obtain ⟨b, rfl, hb⟩ := ho
   refine Tot.step (s.set k b) (by rw [hw]) ⟨by rw [List.length_set]; exact s1, fun i hi => ?_, fun i hi => ?_⟩
   ·rw [bset hk1]
    by_cases e : k = i
    ·subst e
     rw [if_pos rfl, Option.some.injEq]
     exact hb
    ·rw [if_neg e]
     exact s2 i (by omega)
   ·rw [bset hk1, if_neg (by omega)]
    exact s3 i (by omega)
 ·obtain ⟨s1, s2, s3⟩ := hs
  unfold origin_Trusted_L2
  refine Tot.iteF (by simp) (Tot.last ⟨s1, fun i => ?_⟩)
  by_cases e : i < cs.length
  ·exact s2 i e
  ·simp only
   rw [List.getElem?_eq_none (by omega)]
   exact ⟨fun h => (by cases h), fun h => (e (tr_lt h)).elim⟩
end
theorem equal_tot {a b : List Bool} (hl : a.length = b.length) (hn : a.length ≤ 1000000) : Tot (slices_Equal a b) (fun c => c = true → a = b) := by
 unfold slices_Equal
 refine Tot.iteF (by simp [hl]) (Tot.bindRng a.length (fun k (_ : Unit) => ((k : Nat) : Int)) (fun k _ => a.take k = b.take k) (fun x => match x with | .inl _ => True | .inr _ => a = b) () rfl (by simp) (fun k u hk hb => ?_) (fun u hb => ?_) (fun x hx => ?_))
 ·have hw : w64 ((k : Int) + 1) = ((k + 1 : Nat) : Int) := by rw [w64_id (by omega) (by omega)]; rfl
  have hk2 : k < b.length := by omega
  unfold slices_Equal_L0
  refine Tot.iteT (by simpa using hk) (Tot.bindIdx k rfl hk (Tot.bindIdx k rfl hk2 (Tot.bindIdx k rfl hk2 (Tot.ite (fun h => Tot.stop trivial) (fun h => Tot.step () (by rw [hw]) ?_)))))
  rw [take_snoc hk, take_snoc hk2, hb, bne_eq_false_iff_eq.1 h]
 ·unfold slices_Equal_L0
  refine Tot.iteF (by simp) (Tot.last ?_)
  rw [List.take_length, hl, List.take_length] at hb
  exact hb
 ·cases x with
  | inl _ => exact Tot.some fun e => (by cases e)
  | inr _ => exact Tot.some fun _ => hx
theorem trusted_tot {cs : List api_Cert} {an : List Int} {now : Int} (hr : ∀ c ∈ cs, Raw c.fResources) (hl : cs.length ≤ 1000000) (ha : an.length ≤ 1000000000) :
  Tot (origin_Trusted cs an now) (fun t => t.length = cs.length ∧ ∀ i, t[i]? = some true ↔ Tr cs an now 15 i) := by
 unfold origin_Trusted
 have hc : ((decide (0 ≤ (cs.length : Int)) && decide ((cs.length : Int) ≤ (cs.length : Int)) && decide ((cs.length : Int) ≤ (LIM : Int)))) = true := by
  rw [decide_eq_true (by omega), decide_eq_true (Int.le_refl _), decide_eq_true (show (cs.length : Int) ≤ (LIM : Int) from Int.ofNat_le.2 (show cs.length ≤ 4294967296 by omega))]
  rfl
 refine Tot.chk hc (Tot.chk hc ?_)
 rw [Int.toNat_natCast]
 refine Tot.bindT (trust_L0 hr hl ha) fun p hp => ?_
 obtain ⟨p1, p2, p3, p4⟩ := hp
 refine Tot.bindRng 15 (fun k (s : List Bool) => (((k : Nat) : Int), s)) (fun k t => t.length = cs.length ∧ ∀ i, t[i]? = some true ↔ Tr cs an now k i) (fun t => t.length = cs.length ∧ ∀ i, t[i]? = some true ↔ Tr cs an now 15 i) p.2 rfl ⟨p2, p4⟩ (fun k s hk hs => ?_) (fun s hs => ?_) (fun t ht => Tot.some ht)
 ·have hw : w64 ((k : Int) + 1) = ((k + 1 : Nat) : Int) := by rw [w64_id (by omega) (by omega)]; rfl
  obtain ⟨s1, s2⟩ := hs
  unfold origin_Trusted_L1
  refine Tot.iteT (decide_eq_true (show (k : Int) < 15 by omega)) (Tot.bindOf (show ext23_slices_Clone_S s = some s from chk_of (limB (by omega)) rfl) (Tot.bindT (trust_L2 hl p1 p3 s1 s2) fun o ho => Tot.bindT (equal_tot (by omega) (by omega)) fun b hb => Tot.ite (fun h => Tot.stop ⟨ho.1, fun i => ?_⟩) (fun h => Tot.step o (by rw [hw]) ho)))
  have e := hb h
  rw [← e, s2]
  have fx : ∀ i, Tr cs an now (k + 1) i → Tr cs an now k i := fun i hi => by rw [← s2, e]; exact (ho.2 i).2 hi
  constructor
  ·intro h1
   have := tr_mono h1 (15 - k)
   rwa [show k + (15 - k) = 15 from by omega] at this
  ·intro h1
   refine tr_fix fx (15 - k) i ?_
   rwa [show k + (15 - k) = 15 from by omega]
 ·unfold origin_Trusted_L1
  exact Tot.iteF rfl (Tot.last hs)
end Go.Proofs.YtgfoabcickjphaaDoor
