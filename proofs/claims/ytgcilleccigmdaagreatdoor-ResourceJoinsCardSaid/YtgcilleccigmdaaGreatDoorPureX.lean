/- The fewest prefixes, both sides, and the example, in plain Lean. -/
import Derived.Test.YtgcilleccigmdaaGreatDoorPureO
namespace Go.Proofs.YtgcilleccigmdaaGreatDoor
open Go Go.Vc
def fits (a t : api_Addr) (q : api_Prefix) : Prop := pV q ∧ q.fAddr = a ∧ rk (LastF q) ≤ rk t
theorem fits_make {a : api_Addr} (ha : aV a) {k : Nat} (hk : k ≤ wid a.fV6) {q : api_Prefix} (hq : pV q) (h1 : q.fAddr = a) (h2 : q.fLen = k) : (MakeF a k).1 = q := by
 have hm := make_V ha hk
 rw [makeF_ok ha hk]
 refine pV_ext hm hq (by rw [h1]; rfl) h2.symm ?_
 simp only [nA_mkA]
 have hl := low_fr hq
 unfold fr at hl
 rw [h1, h2] at hl
 rw [h1]
 simpa using hl
theorem last_full {a : api_Addr} (ha : aV a) : rk (LastF (api_Prefix.mk a (wid a.fV6))) = rk a := by
 have : LastF (api_Prefix.mk a (wid a.fV6)) = a := by
  unfold LastF fr
  simp only [Int.toNat_natCast, Nat.sub_self]
  have : fill (nA a) 0 = nA a := by
   refine Nat.eq_of_testBit_eq fun i => ?_
   rw [fill_bit]
   simp
  rw [this, mkA_nA ha.1]
 rw [this]
theorem largest_tot {a t : api_Addr} (ha : aV a) (ht : aV t) (hle : rk a ≤ rk t) : Tot (resource_largest a t) (fun p => fits a t p ∧ ∀ q, fits a t q → p.fLen ≤ q.fLen) := by
 unfold resource_largest
 have hwd := wid_le a.fV6
 refine Tot.bindRng (wid a.fV6 + 1) (fun k (_ : Unit) => ((k : Nat) : Int)) (fun k _ => ∀ q, fits a t q → (k : Int) ≤ q.fLen) (fun p => fits a t p ∧ ∀ q, fits a t q → p.fLen ≤ q.fLen) () rfl (fun q hq => hq.1.len0) (fun k b hk hb => ?_) (fun b hb => ?_) (fun x hx => Tot.some hx)
 ·have hw : w64 ((k : Int) + 1) = ((k + 1 : Nat) : Int) := by rw [w64_id (by omega) (by omega)]; rfl
  have hkw : k ≤ wid a.fV6 := by omega
  have hV := make_V ha hkw
  unfold resource_largest_L0
  refine Tot.bindOf (make_eq ha.1 _) ?_
  have hm := makeF_ok ha hkw
  refine Tot.jnR (fun b : Bool => b = true ↔ fits a t (MakeF a k).1) (fun j hj => ?_) (fun b hb2 => Tot.ite (fun h => Tot.stop ⟨hb2.1 h, fun q hq => ?_⟩) (fun h => Tot.step () (by rw [hw]) fun q hq => ?_))
  ·rw [hm] at hj ⊢
   refine Tot.iteF (by simp) ?_
   simp only
   have hae : ∀ x y : api_Addr, ((x.fV6 == y.fV6) && ((x.fHi == y.fHi) && ((x.fLo == y.fLo) && true))) = aeq x y := fun _ _ => rfl
   rw [hae]
   refine Tot.ite (fun h => Tot.bindOf (last_eq hV) (Tot.bindOf (acmp_eq (lastF_V hV).1 ht.1) (hj _ ?_))) (fun h => hj _ ?_)
   ·rw [decide_eq_true_iff, cmpA_le (lastF_V hV) ht]
    exact ⟨fun e => ⟨hV, aeq_iff.1 h, e⟩, fun e => e.2.2⟩
   ·exact ⟨fun e => (by cases e), fun e => by rw [aeq_iff.2 e.2.1] at h; cases h⟩
  ·rw [hm]
   exact hb q hq
  ·have h1 := hb q hq
   by_cases e : q.fLen = k
   ·have := fits_make ha hkw hq.1 hq.2.1 e
    rw [hb2.2 (by rw [this]; exact hq)] at h; cases h
   ·omega
 ·exfalso
  have := hb (api_Prefix.mk a (wid a.fV6)) ⟨by
   have := make_V ha (Nat.le_refl (wid a.fV6))
   rw [Nat.sub_self] at this
   have e : cut (nA a) 0 = nA a := by unfold cut; simp
   rw [e, mkA_nA ha.1] at this
   exact this, rfl, by rw [last_full ha]; exact hle⟩
  simp only at this
  omega
def top (a t : api_Addr) (p : api_Prefix) : Prop := fits a t p ∧ ∀ q, fits a t q → p.fLen ≤ q.fLen
theorem top_one {a t : api_Addr} (ha : aV a) {p q : api_Prefix} (hp : top a t p) (hq : top a t q) : p = q := by
 have e : p.fLen = q.fLen := Int.le_antisymm (hp.2 _ hq.1) (hq.2 _ hp.1)
 refine pV_ext hp.1.1 hq.1.1 (by rw [hp.1.2.1, hq.1.2.1]) e (by rw [hp.1.2.1, hq.1.2.1])
inductive GL (t : api_Addr) : api_Addr × Bool → List api_Prefix → Prop
 | stop {s : api_Addr × Bool} : ¬ (s.2 = true ∧ rk s.1 ≤ rk t) → GL t s []
 | step {a : api_Addr} {p : api_Prefix} {l : List api_Prefix} : aV a → rk a ≤ rk t → top a t p → GL t (NextF (LastF p)) l → GL t (a, true) (p :: l)
theorem greedy_tot {x : api_Range} (hx : aV x.fTo) {s : api_Addr × Bool} {l : List api_Prefix} (h : GL x.fTo s l) : ∀ acc : List api_Prefix, (s.2 = true → aV s.1) → acc.length + l.length ≤ 1000000 → Tot (loop (resource_Prefixes_L1 x) (s.2, s.1, acc)) (fun r => r = acc ++ l) := by
 induction h with
 | @stop s hs =>
  intro acc hv hl
  refine Tot.rng 0 (fun _ (_ : Unit) => (s.2, s.1, acc)) (fun _ _ => True) _ () rfl trivial (fun k _ hk _ => by omega) (fun _ _ => ?_)
  unfold resource_Prefixes_L1
  refine Tot.jnR (fun m : Bool => m = false) (fun j hj => Tot.ite (fun h2 => Tot.bindOf (acmp_eq (hv h2).1 hx.1) (hj _ ?_)) (fun _ => hj _ rfl)) (fun m hm => Tot.iteF hm (Tot.last (by simp)))
  exact decide_eq_false fun e => hs ⟨h2, (cmpA_le (hv h2) hx).1 e⟩
 | @step a p l ha hle hp hg ih =>
  intro acc hv hl
  have hpv := hp.1.1
  have hn : (NextF (LastF p)).2 = true → aV (NextF (LastF p)).1 := fun e => (next_rk e).1
  obtain ⟨r, e, hr⟩ := ih (acc ++ [p]) hn (by simp only [List.length_append, List.length_cons, List.length_nil] at hl ⊢; omega)
  refine ⟨r, ?_, by rw [hr]; simp⟩
  have hb : resource_Prefixes_L1 x (true, a, acc) = some (.inr ((NextF (LastF p)).2, (NextF (LastF p)).1, acc ++ [p])) := by
   refine Tot.eq ?_
   unfold resource_Prefixes_L1
   refine Tot.jnR (fun m : Bool => m = true) (fun j hj => Tot.iteT rfl (Tot.bindOf (acmp_eq ha.1 hx.1) (hj _ (decide_eq_true ((cmpA_le ha hx).2 hle))))) (fun m hm => Tot.iteT hm (Tot.bindT (largest_tot ha hx hle) fun q hq => ?_))
   have : q = p := top_one ha hq hp
   subst this
   refine Tot.chk (limB (by simp at hl ⊢; omega)) (Tot.bindOf (last_eq hpv) (Tot.bindOf (anext_eq (lastF_V hpv)) (Tot.some rfl)))
  exact loop_next hb e
theorem last_num {p : api_Prefix} (h : pV p) : nA (LastF p) = nA p.fAddr + (2 ^ fr p - 1) := by
 unfold LastF
 rw [nA_mkA]
 unfold fill
 rw [low_fr h]
theorem rk_num {a b : api_Addr} (h : a.fV6 = b.fV6) : rk a ≤ rk b ↔ nA a ≤ nA b := by
 unfold rk
 rw [h]
 split <;> omega
theorem next_some {a : api_Addr} (h : nA a + 1 < 2 ^ wid a.fV6) : NextF a = (mkA a.fV6 (nA a + 1), true) := if_pos h
def loA (x : api_Range) (P : api_Prefix) : api_Addr := if rk x.fFrom ≤ rk P.fAddr then P.fAddr else x.fFrom
noncomputable def hiA (x : api_Range) (P : api_Prefix) : api_Addr := if rk (LastF P) ≤ rk x.fTo then LastF P else x.fTo
structure xV (x : api_Range) : Prop where
 f : aV x.fFrom
 t : aV x.fTo
 v : x.fFrom.fV6 = x.fTo.fV6
 le : rk x.fFrom ≤ rk x.fTo
structure Dv (x : api_Range) (P : api_Prefix) (l : List api_Prefix) : Prop where
 out : (rk (LastF P) < rk x.fFrom ∨ rk x.fTo < rk P.fAddr) → l = []
 gl : rk x.fFrom ≤ rk (LastF P) → rk P.fAddr ≤ rk x.fTo → GL (hiA x P) (loA x P, true) l
 n0 : l.length ≤ 2 * fr P + 1
 n1 : rk x.fFrom ≤ rk P.fAddr → l.length ≤ fr P + 1
 n2 : rk (LastF P) ≤ rk x.fTo → l.length ≤ fr P + 1
 n3 : rk x.fFrom ≤ rk P.fAddr → rk (LastF P) ≤ rk x.fTo → l.length ≤ 1
theorem next_gt {a : api_Addr} {t : api_Addr} (h : rk t ≤ rk a) : GL t (NextF a) [] := by
 refine GL.stop ?_
 rintro ⟨h1, h2⟩
 have := (next_rk h1).2.1
 omega
def P0 (v : Bool) : api_Prefix := api_Prefix.mk (api_Addr.mk v 0 0) 0
theorem p0_n (v : Bool) : nA (P0 v).fAddr = 0 := by unfold nA P0; simp
theorem p0_V (v : Bool) : pV (P0 v) := by
 have e : nA (P0 v).fAddr = 0 := p0_n v
 have z : (0 : Int) ≤ 0 ∧ (0 : Int) < 18446744073709551616 := by decide
 refine ⟨⟨⟨z, z⟩, ?_⟩, Int.le_refl _, ?_, ?_⟩
 ·exact .inr ⟨rfl, show (0 : Int) < 4294967296 by decide⟩
 ·show (0 : Int) ≤ _
  omega
 ·rw [e]
  unfold cut
  simp
theorem top_num {a t : api_Addr} {p : api_Prefix} (hp : pV p) (ha : p.fAddr = a) (hv : t.fV6 = a.fV6) (h1 : nA a + (2 ^ fr p - 1) ≤ nA t) (h2 : nA t < nA a + (2 ^ (fr p + 1) - 1)) : top a t p := by
 subst ha
 refine ⟨⟨hp, rfl, (rk_num (show (LastF p).fV6 = t.fV6 from hv.symm)).2 (by rw [last_num hp]; exact h1)⟩, fun q hq => ?_⟩
 have e : q.fAddr.fV6 = p.fAddr.fV6 := by rw [hq.2.1]
 have h3 := (rk_num (show (LastF q).fV6 = t.fV6 from e.trans hv.symm)).1 hq.2.2
 rw [last_num hq.1, hq.2.1] at h3
 have k1 := fr_eq hp
 have k2 := fr_eq hq.1
 rw [e] at k2
 rcases Nat.lt_or_ge (fr p) (fr q) with c | c
 ·have : 2 ^ (fr p + 1) ≤ 2 ^ fr q := Nat.pow_le_pow_right (by decide) c
  omega
 ·omega
def ex1 : api_Prefix := api_Prefix.mk (api_Addr.mk false 0 167772160) 31
def ex2 : api_Prefix := api_Prefix.mk (api_Addr.mk false 0 167772162) 32
def exR : api_Range := api_Range.mk (api_Addr.mk false 0 167772160) (api_Addr.mk false 0 167772162)
theorem ex1_fr : fr ex1 = 1 := by unfold fr wid ex1; simp
theorem ex2_fr : fr ex2 = 0 := by unfold fr wid ex2; simp
theorem nA_four (n : Nat) : nA (api_Addr.mk false 0 (n : Int)) = n := by unfold nA; simp
theorem ex1_n : nA ex1.fAddr = 167772160 := nA_four 167772160
theorem ex2_n : nA ex2.fAddr = 167772162 := nA_four 167772162
theorem ex1_V : pV ex1 := by
 have := ex1_n
 refine ⟨aV_four (n := 167772160) (by decide) (by decide), by decide, by decide, ?_⟩
 have e : wid ex1.fAddr.fV6 - ex1.fLen.toNat = 1 := ex1_fr
 rw [e, ex1_n]
 unfold cut
 decide
theorem ex2_V : pV ex2 := by
 refine ⟨aV_four (n := 167772162) (by decide) (by decide), by decide, by decide, ?_⟩
 have e : wid ex2.fAddr.fV6 - ex2.fLen.toNat = 0 := ex2_fr
 rw [e, ex2_n]
 unfold cut
 decide
theorem gl_ex1 : GL exR.fTo (exR.fFrom, true) [ex1, ex2] := by
 have l1 : nA (LastF ex1) = 167772161 := by rw [last_num ex1_V, ex1_fr, ex1_n]
 have e1 : NextF (LastF ex1) = (ex2.fAddr, true) := by
  have hv : (LastF ex1).fV6 = false := by unfold LastF; rw [mkA_v6]; rfl
  rw [next_some (by rw [l1, hv]; decide), l1, hv]
  rfl
 refine GL.step ex1_V.addr ((rk_num (show exR.fFrom.fV6 = exR.fTo.fV6 from rfl)).2 ?_) (top_num ex1_V rfl rfl ?_ ?_) ?_
 ·show nA ex1.fAddr ≤ nA ex2.fAddr
  rw [ex1_n, ex2_n]; decide
 ·show nA ex1.fAddr + _ ≤ nA ex2.fAddr
  rw [ex1_n, ex2_n, ex1_fr]; decide
 ·show nA ex2.fAddr < nA ex1.fAddr + _
  rw [ex1_n, ex2_n, ex1_fr]; decide
 ·rw [e1]
  have l2 : nA (LastF ex2) = nA ex2.fAddr := by rw [last_num ex2_V, ex2_fr]; rfl
  have hv : (LastF ex2).fV6 = ex2.fAddr.fV6 := by unfold LastF; rw [mkA_v6]
  refine GL.step ex2_V.addr (Nat.le_refl _) (top_num ex2_V rfl rfl ?_ ?_) (next_gt ((rk_num ?_).2 ?_))
  ·show nA ex2.fAddr + _ ≤ nA ex2.fAddr
   rw [ex2_fr]; simp
  ·show nA ex2.fAddr < nA ex2.fAddr + _
   rw [ex2_fr]; simp
  ·exact hv.symm
  ·rw [l2]; exact Nat.le_refl _
theorem exR_V : VRes (api_Resources.mk [exR] []) := by
 refine ⟨fun x hx => ?_, ?_, fun x hx => (by cases hx), vl_nil, by decide, by decide⟩
 ·rw [List.mem_singleton.1 hx]
  exact ⟨ex1_V.addr, ex2_V.addr, rfl⟩
 ·refine ⟨fun x hx => ?_, List.pairwise_singleton _ _⟩
  rw [List.mem_singleton.1 hx]
  refine (rk_num (show exR.fFrom.fV6 = exR.fTo.fV6 from rfl)).2 ?_
  show nA ex1.fAddr ≤ nA ex2.fAddr
  rw [ex1_n, ex2_n]; decide
end Go.Proofs.YtgcilleccigmdaaGreatDoor
