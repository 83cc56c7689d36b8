/- The document's Valid, and bent resources, in plain Lean. -/
import Derived.Test.YtgcilleccigmdaaGreatDoorPureSM
namespace Go.Proofs.YtgcilleccigmdaaGreatDoor
open Go Go.Vc
theorem near_iff {a b : api_Addr} (ha : aV a) (hb : aV b) : (0 ≤ cmpA a b ∨ ((NextF a).2 = true ∧ (NextF a).1 = b)) ↔ ¬ rk a + 1 < rk b := by
 rw [cmpA_nonneg ha hb]
 cases h : (NextF a).2
 ·have := next_none ha hb h
  constructor
  ·rintro (h1 | ⟨h1, _⟩)
   ·omega
   ·cases h1
  ·intro h1; left; omega
 ·obtain ⟨n1, n2, _⟩ := next_rk h
  constructor
  ·rintro (h1 | ⟨_, h1⟩)
   ·omega
   ·rw [← h1, n2]; omega
  ·intro h1
   by_cases c : rk b ≤ rk a
   ·exact .inl c
   ·exact .inr ⟨rfl, rk_inj n1 hb (by omega)⟩
theorem rvalid21_L0 {r : api_Resources} (hr : RRes r) (hl : r.fAddrs.length ≤ 1000000) :
  Tot (loop (exchangepointref21_Valid_L0 r) (0 : Int)) (fun x => match x with | .inl _ => ¬ (AVr r.fAddrs ∧ VL (r.fAddrs.map ivA)) | .inr _ => AVr r.fAddrs ∧ VL (r.fAddrs.map ivA)) := by
 refine Tot.rng r.fAddrs.length (fun k (_ : Unit) => ((k : Nat) : Int)) (fun k _ => AVr (r.fAddrs.take k) ∧ VL ((r.fAddrs.map ivA).take k)) _ () rfl ⟨fun x hx => by simp at hx, by simpa using vl_nil⟩ (fun k u hk hb => ?_) (fun u hb => ?_)
 ·have hw : w64 ((k : Int) + 1) = ((k + 1 : Nat) : Int) := by rw [w64_id (by omega) (by omega)]; rfl
  obtain ⟨b1, b2⟩ := hb
  have hkm : k < (r.fAddrs.map ivA).length := by simpa using hk
  have hR := hr _ (List.getElem_mem hk)
  have hgk : (r.fAddrs.map ivA)[k] = ivA r.fAddrs[k] := by simp
  have stp := vl_step hkm
  rw [hgk] at stp
  have bad : ∀ {P : Prop}, ¬ P → ((AVr r.fAddrs ∧ VL (r.fAddrs.map ivA)) → P) → ¬ (AVr r.fAddrs ∧ VL (r.fAddrs.map ivA)) := fun h k e => h (k e)
  have one : AVr r.fAddrs ∧ VL (r.fAddrs.map ivA) → aV r.fAddrs[k].fFrom ∧ aV r.fAddrs[k].fTo ∧ r.fAddrs[k].fFrom.fV6 = r.fAddrs[k].fTo.fV6 ∧ rk r.fAddrs[k].fFrom ≤ rk r.fAddrs[k].fTo := fun e => by
   obtain ⟨h1, h2, h3⟩ := e.1 _ (List.getElem_mem hk)
   exact ⟨h1, h2, h3, (stp.1 (vl_take e.2 (k + 1))).2.1⟩
  unfold exchangepointref21_Valid_L0
  refine Tot.iteT (by simpa using hk) (Tot.jnR (fun _ : Unit => AVr (r.fAddrs.take (k + 1)) ∧ VL ((r.fAddrs.map ivA).take (k + 1))) (fun j hj => ?_) (fun m hm => Tot.step () (by rw [hw]) hm))
  refine Tot.bindIdx k rfl hk (Tot.jnR (fun m : Bool => m = false ↔ (aV r.fAddrs[k].fFrom ∧ aV r.fAddrs[k].fTo ∧ r.fAddrs[k].fFrom.fV6 = r.fAddrs[k].fTo.fV6 ∧ rk r.fAddrs[k].fFrom ≤ rk r.fAddrs[k].fTo)) (fun j2 hj2 => ?_) (fun m hm => Tot.ite (fun h => Tot.stop fun e => ?_) (fun h => ?_)))
  ·rw [ravalid_eq, ravalid_eq]
   refine Tot.bindT (avalid_eq _ hR.1) fun b hb => Tot.ite (fun h => hj2 _ ⟨fun e => (by cases e), fun e => ?_⟩) (fun h => Tot.bindT (avalid_eq _ hR.2) fun c hc => Tot.ite (fun h2 => hj2 _ ⟨fun e => (by cases e), fun e => ?_⟩) (fun h2 => ?_))
   ·rw [hb.2 e.1] at h; cases h
   ·rw [hc.2 e.2.1, e.2.2.1] at h2
    simp at h2
   ·have f1 := hb.1 (by simpa using h)
    simp only [Bool.or_eq_false_iff, Bool.not_eq_false', bne_eq_false_iff_eq] at h2
    have f2 := hc.1 h2.1
    refine Tot.bindOf (racmp_eq hR.1 hR.2) (hj2 _ ?_)
    rw [decide_eq_false_iff_not, cmpA_pos f1 f2]
    exact ⟨fun e => ⟨f1, f2, h2.2, by omega⟩, fun e => by have := e.2.2.2; omega⟩
  ·rw [hm.2 (one e)] at h; cases h
  ·obtain ⟨f1, f2, f3, f4⟩ := hm.1 h
   have avk : AVr (r.fAddrs.take (k + 1)) := fun x hx => by
    rw [take_snoc hk] at hx
    rcases List.mem_append.1 hx with hx | hx
    ·exact b1 x hx
    ·rw [List.mem_singleton.1 hx]; exact ⟨f1, f2, f3⟩
   refine Tot.ite (fun h0 => hj () ⟨avk, stp.2 ⟨b2, f4, fun m e => ?_⟩⟩) (fun h0 => ?_)
   ·have := beq_iff_eq.1 h0
    omega
   ·have h0 : ¬ ((k : Int) = 0) := beq_eq_false_iff_ne.1 h0
    obtain ⟨m, rfl⟩ : ∃ m, k = m + 1 := ⟨k - 1, by omega⟩
    have hm0 : m < r.fAddrs.length := by omega
    have hw2 : w64 (((m + 1 : Nat) : Int) - 1) = (m : Int) := by rw [w64_id (by omega) (by omega)]; omega
    obtain ⟨p1, p2, p3⟩ := b1 r.fAddrs[m] (List.mem_take_iff_getElem.2 ⟨m, by omega, rfl⟩)
    have key := near_iff p2 f1
    rw [hw2]
    refine Tot.bindIdx m rfl hm0 (Tot.bindOf (rnext_eq p2) (Tot.jnR (fun q : Bool => q = true ↔ ¬ rk r.fAddrs[m].fTo + 1 < rk r.fAddrs[m + 1].fFrom) (fun j3 hj3 => Tot.bindOf (racmp_eq p2.1 f1.1) (Tot.ite (fun h3 => hj3 _ ⟨fun _ => key.1 (.inl (of_decide_eq_true h3)), fun _ => rfl⟩) (fun h3 => hj3 _ ?_))) (fun q hq => Tot.ite (fun h3 => Tot.stop fun e => hq.1 h3 ?_) (fun h3 => hj () ⟨avk, stp.2 ⟨b2, f4, fun i e => ?_⟩⟩))))
    ·have hae : ∀ x y : api_Addr, ((x.fV6 == y.fV6) && ((x.fHi == y.fHi) && ((x.fLo == y.fLo) && true))) = aeq x y := fun _ _ => rfl
     rw [hae, Bool.and_eq_true, aeq_iff, ← key]
     exact ⟨.inr, fun e => e.resolve_left (of_decide_eq_false h3)⟩
    ·have := (stp.1 (vl_take e.2 (m + 1 + 1))).2.2 m rfl
     simpa [ivA] using this
    ·have : i = m := by omega
     subst this
     have : rk r.fAddrs[i].fTo + 1 < rk r.fAddrs[i + 1].fFrom := by
      by_cases c : rk r.fAddrs[i].fTo + 1 < rk r.fAddrs[i + 1].fFrom
      ·exact c
      ·rw [hq.2 c] at h3; cases h3
     simpa [ivA] using this
 ·unfold exchangepointref21_Valid_L0
  refine Tot.iteF (by simp) (Tot.last ?_)
  rw [List.take_length, List.take_of_length_le (by simp)] at hb
  exact hb
theorem rvalid21_L1 {r : api_Resources} (hl : r.fASNs.length ≤ 1000000) :
  Tot (loop (exchangepointref21_Valid_L1 r) (0 : Int)) (fun x => match x with | .inl _ => ¬ (SVr r.fASNs ∧ VL (r.fASNs.map ivS)) | .inr _ => SVr r.fASNs ∧ VL (r.fASNs.map ivS)) := by
 refine Tot.rng r.fASNs.length (fun k (_ : Unit) => ((k : Nat) : Int)) (fun k _ => SVr (r.fASNs.take k) ∧ VL ((r.fASNs.map ivS).take k)) _ () rfl ⟨fun x hx => by simp at hx, by simpa using vl_nil⟩ (fun k u hk hb => ?_) (fun u hb => ?_)
 ·have hw : w64 ((k : Int) + 1) = ((k + 1 : Nat) : Int) := by rw [w64_id (by omega) (by omega)]; rfl
  obtain ⟨b1, b2⟩ := hb
  have hkm : k < (r.fASNs.map ivS).length := by simpa using hk
  have hgk : (r.fASNs.map ivS)[k] = ivS r.fASNs[k] := by simp
  have stp := vl_step hkm
  rw [hgk] at stp
  unfold exchangepointref21_Valid_L1
  refine Tot.iteT (by simpa using hk) (Tot.bindIdx k rfl hk (Tot.jnR (fun m : Bool => (m = true → ¬ (SVr r.fASNs ∧ VL (r.fASNs.map ivS))) ∧ (m = false → SVr (r.fASNs.take (k + 1)) ∧ VL ((r.fASNs.map ivS).take (k + 1)))) (fun j hj => ?_) (fun m hm => Tot.ite (fun h => Tot.stop (hm.1 h)) (fun h => Tot.step () (by rw [hw]) (hm.2 h)))))
  refine Tot.ite (fun h => hj _ ⟨fun _ e => ?_, fun e => (by cases e)⟩) (fun h => ?_)
  ·obtain ⟨h1, h2, h3⟩ := e.1 _ (List.getElem_mem hk)
   simp only [Bool.or_eq_true, decide_eq_true_eq] at h
   omega
  ·simp only [Bool.or_eq_false_iff, decide_eq_false_iff_not] at h
   have f : okN r.fASNs[k].fFrom r.fASNs[k].fTo := ⟨by omega, by omega, by omega⟩
   have svk : SVr (r.fASNs.take (k + 1)) := fun x hx => by
    rw [take_snoc hk] at hx
    rcases List.mem_append.1 hx with hx | hx
    ·exact b1 x hx
    ·rw [List.mem_singleton.1 hx]; exact f
   obtain ⟨f0, f1, f2⟩ := f
   have f4 : (ivS r.fASNs[k]).1 ≤ (ivS r.fASNs[k]).2 := by unfold ivS; simp only; omega
   refine Tot.ite (fun h0 => ?_) (fun h0 => hj _ ⟨fun e => (by cases e), fun _ => ⟨svk, stp.2 ⟨b2, f4, fun m e => ?_⟩⟩⟩)
   ·have h0 := of_decide_eq_true h0
    obtain ⟨m, rfl⟩ : ∃ m, k = m + 1 := ⟨k - 1, by omega⟩
    have hm0 : m < r.fASNs.length := by omega
    have hw2 : w64 (((m + 1 : Nat) : Int) - 1) = (m : Int) := by rw [w64_id (by omega) (by omega)]; omega
    obtain ⟨p1, p2, p3⟩ := b1 r.fASNs[m] (List.mem_take_iff_getElem.2 ⟨m, by omega, rfl⟩)
    rw [hw2]
    refine Tot.bindIdx m rfl hm0 (hj _ ?_)
    rw [w64_id (n := r.fASNs[m + 1].fFrom - 1) (by omega) (by omega)]
    constructor
    ·intro h3 e
     have h3 := of_decide_eq_true h3
     have := (stp.1 (vl_take e.2 (m + 1 + 1))).2.2 m rfl
     have : (ivS r.fASNs[m]).2 + 1 < (ivS r.fASNs[m + 1]).1 := by simpa using this
     unfold ivS at this
     simp only at this
     omega
    ·intro h3
     have h3 := of_decide_eq_false h3
     refine ⟨svk, stp.2 ⟨b2, f4, fun i e => ?_⟩⟩
     have : i = m := by omega
     subst this
     have : (ivS r.fASNs[i]).2 + 1 < (ivS r.fASNs[i + 1]).1 := by
      unfold ivS
      simp only
      omega
     simpa using this
   ·have h0 := of_decide_eq_false h0
    omega
 ·unfold exchangepointref21_Valid_L1
  refine Tot.iteF (by simp) (Tot.last ?_)
  rw [List.take_length, List.take_of_length_le (by simp)] at hb
  exact hb
theorem rvalid21 {r : api_Resources} (hr : RRes r) (h1 : r.fAddrs.length ≤ 1000000) (h2 : r.fASNs.length ≤ 1000000) : Tot (exchangepointref21_Valid r) (fun b => b = true ↔ VRes r) := by
 unfold exchangepointref21_Valid
 refine Tot.bindT (rvalid21_L0 hr h1) fun x hx => ?_
 cases x with
 | inl _ => exact Tot.some ⟨fun e => (by cases e), fun e => (hx ⟨e.av, e.va⟩).elim⟩
 | inr _ =>
  have hx : AVr r.fAddrs ∧ VL (r.fAddrs.map ivA) := hx
  refine Tot.bindT (rvalid21_L1 h2) fun y hy => ?_
  cases y with
  | inl _ => exact Tot.some ⟨fun e => (by cases e), fun e => (hy ⟨e.sv, e.vs⟩).elim⟩
  | inr _ =>
   have hy : SVr r.fASNs ∧ VL (r.fASNs.map ivS) := hy
   refine Tot.some ?_
   rw [Bool.and_eq_true, decide_eq_true_iff, decide_eq_true_iff]
   exact ⟨fun e => ⟨hx.1, hx.2, hy.1, hy.2, by omega, by omega⟩, fun e => ⟨by have := e.la; omega, by have := e.ls; omega⟩⟩
theorem set_R {l : List api_Range} (h : ∀ x ∈ l, aR x.fFrom ∧ aR x.fTo) {k : Nat} {y : api_Range} (hy : aR y.fFrom ∧ aR y.fTo) : ∀ x ∈ l.set k y, aR x.fFrom ∧ aR x.fTo := fun x hx => by
 rcases List.mem_or_eq_of_mem_set hx with hx | hx
 ·exact h x hx
 ·rw [hx]; exact hy
theorem app_R {l : List api_Range} (h : ∀ x ∈ l, aR x.fFrom ∧ aR x.fTo) {y : api_Range} (hy : aR y.fFrom ∧ aR y.fTo) : ∀ x ∈ l ++ [y], aR x.fFrom ∧ aR x.fTo := fun x hx => by
 rcases List.mem_append.1 hx with hx | hx
 ·exact h x hx
 ·rw [List.mem_singleton.1 hx]; exact hy
theorem set_R2 {l : List api_Range} (h : ∀ x ∈ l, aR x.fFrom ∧ aR x.fTo) {k : Nat} {a b : api_Addr} (ha : aR a) (hb : aR b) : ∀ x ∈ l.set k (api_Range.mk a b), aR x.fFrom ∧ aR x.fTo := set_R h ⟨ha, hb⟩
theorem app_R2 {l : List api_Range} (h : ∀ x ∈ l, aR x.fFrom ∧ aR x.fTo) {a b : api_Addr} (ha : aR a) (hb : aR b) : ∀ x ∈ l ++ [api_Range.mk a b], aR x.fFrom ∧ aR x.fTo := app_R h ⟨ha, hb⟩
theorem next_R {a : api_Addr} (h : aV a) : aR (NextF a).1 := by
 unfold NextF
 split
 ·exact (mkA_V (by assumption)).1
 ·exact ⟨by decide, by decide⟩
theorem mod_ix (a : Int) {n : Nat} (hn : 0 < n) (hb : n ≤ 1000000) : ∃ k : Nat, k < n ∧ exchangepointmake_Mod a (n : Int) = some (k : Int) := by
 have h1 := Int.emod_nonneg a (show (n : Int) ≠ 0 by omega)
 have h2 := Int.emod_lt_of_pos a (show (0 : Int) < n by omega)
 refine ⟨(a % (n : Int)).toNat, by omega, ?_⟩
 rw [mod_eq a n (by omega) (by omega), Int.toNat_of_nonneg h1]
theorem bent_tot {r : api_Resources} (hr : VRes r) (a b : Int) : Tot (exchangepointlaw21_bent r a b) (fun x => RRes x ∧ x.fAddrs.length ≤ 257 ∧ x.fASNs.length ≤ 257) := by
 have la := hr.la
 have ls := hr.ls
 have hR : ∀ x ∈ r.fAddrs, aR x.fFrom ∧ aR x.fTo := hr.R
 unfold exchangepointlaw21_bent
 refine Tot.chk (limB (by omega)) (Tot.chk (limB (by omega)) (Tot.jnR (fun m : List api_Range => (∀ x ∈ m, aR x.fFrom ∧ aR x.fTo) ∧ m.length ≤ 257) (fun j hj => ?_) (fun m hm => Tot.jnR (fun s : List api_Span => s.length ≤ 257) (fun j hj => ?_) (fun s hs => Tot.some ⟨hm.1, hm.2, hs⟩))))
 ·refine Tot.ite (fun h => ?_) (fun h => hj _ ⟨hR, by omega⟩)
  have h := of_decide_eq_true h
  obtain ⟨k, hk, e⟩ := mod_ix b (n := r.fAddrs.length) (by omega) (by omega)
  obtain ⟨i, hi, e8⟩ := mod_ix a (n := 8) (by omega) (by omega)
  rw [show ((8 : Nat) : Int) = 8 from rfl] at e8
  have hx := hr.av _ (List.getElem_mem hk)
  refine Tot.bindOf e (Tot.bindIdx k rfl hk (Tot.bindOf e8 (Tot.ite (fun _ => ?_) (fun _ => Tot.ite (fun _ => ?_) (fun _ => Tot.ite (fun _ => ?_) (fun _ => Tot.ite (fun _ => ?_) (fun _ => hj _ ⟨hR, by omega⟩)))))))
  ·refine Tot.bindIdx k rfl hk (Tot.bindIdx k rfl hk (Tot.bindIdx k rfl hk ?_))
   simp only [Int.toNat_natCast]
   refine Tot.bindIdx k rfl (by rw [List.length_set]; exact hk) (hj _ ⟨set_R (k := k) (set_R (k := k) (y := api_Range.mk r.fAddrs[k].fTo r.fAddrs[k].fTo) hR ⟨hx.2.1.1, hx.2.1.1⟩) ?_, by simp; omega⟩)
   rw [List.getElem_set_self]
   exact ⟨hx.2.1.1, hx.1.1⟩
  ·refine Tot.bindIdx k rfl hk (Tot.bindOf (rnext_eq hx.2.1) (Tot.bindIdx k rfl hk (hj _ ⟨set_R2 hR hx.1.1 (next_R hx.2.1), by simp; omega⟩)))
  ·refine Tot.bindIdx k rfl hk (Tot.bindIdx k rfl hk (hj _ ⟨set_R hR ⟨hx.1.1, hx.2.1.1⟩, by simp; omega⟩))
  ·refine Tot.bindIdx k rfl hk (Tot.bindOf (rnext_eq hx.2.1) (Tot.ite (fun _ => Tot.chk (limB (by simp; omega)) (hj _ ⟨app_R2 hR (next_R hx.2.1) (next_R hx.2.1), by simp; omega⟩)) (fun _ => hj _ ⟨hR, by omega⟩)))
 ·refine Tot.ite (fun h => ?_) (fun h => hj _ (by omega))
  have h := of_decide_eq_true h
  obtain ⟨k, hk, e⟩ := mod_ix b (n := r.fASNs.length) (by omega) (by omega)
  obtain ⟨i, hi, e8⟩ := mod_ix a (n := 8) (by omega) (by omega)
  rw [show ((8 : Nat) : Int) = 8 from rfl] at e8
  obtain ⟨t, ht, e3⟩ := mod_ix b (n := 3) (by omega) (by omega)
  rw [show ((3 : Nat) : Int) = 3 from rfl] at e3
  refine Tot.bindOf e (Tot.bindIdx k rfl hk (Tot.bindOf e8 (Tot.ite (fun _ => ?_) (fun _ => Tot.ite (fun _ => ?_) (fun _ => Tot.ite (fun _ => ?_) (fun _ => hj _ (by omega)))))))
  ·exact Tot.bindOf e3 (Tot.bindIdx t rfl ht (Tot.bindIdx k rfl hk (hj _ (by simp; omega))))
  ·exact Tot.bindOf e3 (Tot.bindIdx t rfl ht (Tot.bindIdx k rfl hk (hj _ (by simp; omega))))
  ·exact Tot.bindIdx k rfl hk (Tot.bindIdx k rfl hk (Tot.chk (limB (by simp; omega)) (hj _ (by simp; omega))))
end Go.Proofs.YtgcilleccigmdaaGreatDoor
