/- The fewest prefixes, both sides, and the example, in plain Lean. -/
import Derived.Test.YtgcilleccigmdaaDoorPureO
namespace Go.Proofs.YtgcilleccigmdaaDoor
open Go Go.Vc

def fits (a t : api_Addr) (q : api_Prefix) : Prop := pV q ∧ q.fAddr = a ∧ rk (LastF q) ≤ rk t
theorem fits_make {a : api_Addr} (ha : aV a) {k : Nat} (hk : k ≤ wid a.fV6) {q : api_Prefix} (hq : pV q) (h1 : q.fAddr = a) (h2 : q.fLen = k) : (MakeF a k).1 = q := by
 have hm := make_V ha hk
 rw [makeF_ok ha hk]
 refine pV_ext hm hq (by rw [h1]; rfl) h2.symm ?_
 simp only [nA_mkA]
 have hl := low_fr hq
 unfold fr at hl
 rw [h1, h2] at hl
 rw [h1]
 simpa using hl
theorem last_full {a : api_Addr} (ha : aV a) : rk (LastF (api_Prefix.mk a (wid a.fV6))) = rk a := by
 have : LastF (api_Prefix.mk a (wid a.fV6)) = a := by
  unfold LastF fr
  simp only [Int.toNat_natCast, Nat.sub_self]
  have : fill (nA a) 0 = nA a := by
   refine Nat.eq_of_testBit_eq fun i => ?_
   rw [fill_bit]
   simp
  rw [this, mkA_nA ha.1]
 rw [this]
theorem largest_tot {a t : api_Addr} (ha : aV a) (ht : aV t) (hle : rk a ≤ rk t) : Tot (resource_largest a t) (fun p => fits a t p ∧ ∀ q, fits a t q → p.fLen ≤ q.fLen) := by
 unfold resource_largest
 have hwd := wid_le a.fV6
 refine Tot.bindRng (wid a.fV6 + 1) (fun k (_ : Unit) => ((k : Nat) : Int)) (fun k _ => ∀ q, fits a t q → (k : Int) ≤ q.fLen) (fun p => fits a t p ∧ ∀ q, fits a t q → p.fLen ≤ q.fLen) () rfl (fun q hq => hq.1.len0) (fun k b hk hb => ?_) (fun b hb => ?_) (fun x hx => Tot.some hx)
 ·have hw : w64 ((k : Int) + 1) = ((k + 1 : Nat) : Int) := by rw [w64_id (by omega) (by omega)]; rfl
  have hkw : k ≤ wid a.fV6 := by omega
  have hV := make_V ha hkw
  unfold resource_largest_L0
  refine Tot.bindOf (make_eq ha.1 _) ?_
  have hm := makeF_ok ha hkw
  refine Tot.jnR (fun b : Bool => b = true ↔ fits a t (MakeF a k).1) (fun j hj => ?_) (fun b hb2 => Tot.ite (fun h => Tot.stop ⟨hb2.1 h, fun q hq => ?_⟩) (fun h => Tot.step () (by rw [hw]) fun q hq => ?_))
  ·rw [hm] at hj ⊢
   refine Tot.iteF (by simp) ?_
   simp only
   have hae : ∀ x y : api_Addr, ((x.fV6 == y.fV6) && ((x.fHi == y.fHi) && ((x.fLo == y.fLo) && true))) = aeq x y := fun _ _ => rfl
   rw [hae]
   refine Tot.ite (fun h => Tot.bindOf (last_eq hV) (Tot.bindOf (acmp_eq (lastF_V hV).1 ht.1) (hj _ ?_))) (fun h => hj _ ?_)
   ·rw [decide_eq_true_iff, cmpA_le (lastF_V hV) ht]
    exact ⟨fun e => ⟨hV, aeq_iff.1 h, e⟩, fun e => e.2.2⟩
   ·exact ⟨fun e => (by cases e), fun e => by rw [aeq_iff.2 e.2.1] at h; cases h⟩
  ·rw [hm]
   exact hb q hq
  ·have h1 := hb q hq
   by_cases e : q.fLen = k
   ·have := fits_make ha hkw hq.1 hq.2.1 e
    rw [hb2.2 (by rw [this]; exact hq)] at h; cases h
   ·omega
 ·exfalso
  have := hb (api_Prefix.mk a (wid a.fV6)) ⟨by
   have := make_V ha (Nat.le_refl (wid a.fV6))
   rw [Nat.sub_self] at this
   have e : cut (nA a) 0 = nA a := by unfold cut; simp
   rw [e, mkA_nA ha.1] at this
   exact this, rfl, by rw [last_full ha]; exact hle⟩
  simp only at this
  omega

def top (a t : api_Addr) (p : api_Prefix) : Prop := fits a t p ∧ ∀ q, fits a t q → p.fLen ≤ q.fLen
theorem top_one {a t : api_Addr} (ha : aV a) {p q : api_Prefix} (hp : top a t p) (hq : top a t q) : p = q := by
 have e : p.fLen = q.fLen := Int.le_antisymm (hp.2 _ hq.1) (hq.2 _ hp.1)
 refine pV_ext hp.1.1 hq.1.1 (by rw [hp.1.2.1, hq.1.2.1]) e (by rw [hp.1.2.1, hq.1.2.1])
inductive GL (t : api_Addr) : api_Addr × Bool → List api_Prefix → Prop
 | stop {s : api_Addr × Bool} : ¬ (s.2 = true ∧ rk s.1 ≤ rk t) → GL t s []
 | step {a : api_Addr} {p : api_Prefix} {l : List api_Prefix} : aV a → rk a ≤ rk t → top a t p → GL t (NextF (LastF p)) l → GL t (a, true) (p :: l)
theorem greedy_tot {x : api_Range} (hx : aV x.fTo) {s : api_Addr × Bool} {l : List api_Prefix} (h : GL x.fTo s l) : ∀ acc : List api_Prefix, (s.2 = true → aV s.1) → acc.length + l.length ≤ 1000000 → Tot (loop (resource_Prefixes_L1 x) (s.2, s.1, acc)) (fun r => r = acc ++ l) := by
 induction h with
 | @stop s hs =>
  intro acc hv hl
  refine Tot.rng 0 (fun _ (_ : Unit) => (s.2, s.1, acc)) (fun _ _ => True) _ () rfl trivial (fun k _ hk _ => by omega) (fun _ _ => ?_)
  unfold resource_Prefixes_L1
  refine Tot.jnR (fun m : Bool => m = false) (fun j hj => Tot.ite (fun h2 => Tot.bindOf (acmp_eq (hv h2).1 hx.1) (hj _ ?_)) (fun _ => hj _ rfl)) (fun m hm => Tot.iteF hm (Tot.last (by simp)))
  exact decide_eq_false fun e => hs ⟨h2, (cmpA_le (hv h2) hx).1 e⟩
 | @step a p l ha hle hp hg ih =>
  intro acc hv hl
  have hpv := hp.1.1
  have hn : (NextF (LastF p)).2 = true → aV (NextF (LastF p)).1 := fun e => (next_rk e).1
  obtain ⟨r, e, hr⟩ := ih (acc ++ [p]) hn (by simp only [List.length_append, List.length_cons, List.length_nil] at hl ⊢; omega)
  refine ⟨r, ?_, by rw [hr]; simp⟩
  have hb : resource_Prefixes_L1 x (true, a, acc) = some (.inr ((NextF (LastF p)).2, (NextF (LastF p)).1, acc ++ [p])) := by
   refine Tot.eq ?_
   unfold resource_Prefixes_L1
   refine Tot.jnR (fun m : Bool => m = true) (fun j hj => Tot.iteT rfl (Tot.bindOf (acmp_eq ha.1 hx.1) (hj _ (decide_eq_true ((cmpA_le ha hx).2 hle))))) (fun m hm => Tot.iteT hm (Tot.bindT (largest_tot ha hx hle) fun q hq => ?_))
   have : q = p := top_one ha hq hp
   subst this
   refine Tot.chk (limB (by simp at hl ⊢; omega)) (Tot.bindOf (last_eq hpv) (Tot.bindOf (anext_eq (lastF_V hpv)) (Tot.some rfl)))
  exact loop_next hb e

theorem last_num {p : api_Prefix} (h : pV p) : nA (LastF p) = nA p.fAddr + (2 ^ fr p - 1) := by
 unfold LastF
 rw [nA_mkA]
 unfold fill
 rw [low_fr h]
theorem lo_num {P : api_Prefix} (h : pV P) (hl : P.fLen < wid P.fAddr.fV6) : fr (loH P) + 1 = fr P ∧ nA (loH P).fAddr = nA P.fAddr := by
 have h0 := h.len0
 have a := fr_eq h
 have b := fr_eq (loH_V h hl)
 have e1 : (loH P).fLen = P.fLen + 1 := rfl
 have e2 : (loH P).fAddr.fV6 = P.fAddr.fV6 := rfl
 rw [e1, e2] at b
 exact ⟨by omega, rfl⟩
theorem hi_num {P : api_Prefix} (h : pV P) (hl : P.fLen < wid P.fAddr.fV6) : fr (hiH P) + 1 = fr P ∧ nA (hiH P).fAddr = nA P.fAddr + 2 ^ (fr P - 1) := by
 have h0 := h.len0
 have a := fr_eq h
 have b := fr_eq (hiH_V h hl)
 have e1 : (hiH P).fLen = P.fLen + 1 := rfl
 have e2 : (hiH P).fAddr.fV6 = P.fAddr.fV6 := rfl
 rw [e1, e2] at b
 exact ⟨by omega, nA_mkA _ _⟩

theorem cut_range {n k m : Nat} (h : cut m k = m) : cut n k = m ↔ m ≤ n ∧ n ≤ m + (2 ^ k - 1) := by
 have hp : 0 < 2 ^ k := Nat.pow_pos (by decide)
 unfold cut at *
 constructor
 ·intro e
  have h1 := Nat.div_add_mod n (2 ^ k)
  have h2 := Nat.mod_lt n hp
  rw [Nat.mul_comm] at h1
  omega
 ·rintro ⟨h1, h2⟩
  have e : n / 2 ^ k = m / 2 ^ k := by
   refine Nat.div_eq_of_lt_le ?_ ?_
   ·rw [h]; exact h1
   ·rw [Nat.add_mul, h]; omega
  rw [e, h]
theorem cont_num {p : api_Prefix} (h : pV p) {a : api_Addr} : ContF p a = true ↔ a.fV6 = p.fAddr.fV6 ∧ nA p.fAddr ≤ nA a ∧ nA a ≤ nA (LastF p) := by
 rw [cont_iff h, cut_range (low_fr h), last_num h]
theorem rk_num {a b : api_Addr} (h : a.fV6 = b.fV6) : rk a ≤ rk b ↔ nA a ≤ nA b := by
 unfold rk
 rw [h]
 split <;> omega
theorem last_ge {p : api_Prefix} (h : pV p) : nA p.fAddr ≤ nA (LastF p) := by rw [last_num h]; omega
theorem top_on {P : api_Prefix} (hP : pV P) (hl : P.fLen < wid P.fAddr.fV6) {a b : api_Addr} (ha : ContF (loH P) a = true) (hb : b.fV6 = P.fAddr.fV6) (hb1 : nA (LastF (loH P)) < nA b)
  (hno : ¬ (nA a ≤ nA P.fAddr ∧ nA (LastF P) ≤ nA b)) {p : api_Prefix} (hp : top a (LastF (loH P)) p) : top a b p := by
 have hL := loH_V hP hl
 obtain ⟨c1, c2, c3⟩ := (cont_num hL).1 ha
 have hfam : a.fV6 = P.fAddr.fV6 := c1
 have hlow : nA (loH P).fAddr = nA P.fAddr := rfl
 have hPlast : nA (LastF (loH P)) ≤ nA (LastF P) := by
  rw [last_num hL, last_num hP, hlow]
  have := (lo_num hP hl).1
  have : 2 ^ fr (loH P) ≤ 2 ^ fr P := Nat.pow_le_pow_right (by decide) (by omega)
  omega
 refine ⟨⟨hp.1.1, hp.1.2.1, ?_⟩, fun q hq => ?_⟩
 ·have h1 := hp.1.2.2
  have e1 : (LastF p).fV6 = (LastF (loH P)).fV6 := by
   show p.fAddr.fV6 = P.fAddr.fV6
   rw [hp.1.2.1]; exact hfam
  rw [rk_num e1] at h1
  rw [rk_num (e1.trans hb.symm)]
  omega
 ·have hqf : q.fAddr.fV6 = P.fAddr.fV6 := by rw [hq.2.1]; exact hfam
  have hqb : nA (LastF q) ≤ nA b := (rk_num (show (LastF q).fV6 = b.fV6 from hqf.trans hb.symm)).1 hq.2.2
  rcases Nat.lt_or_ge (nA (LastF (loH P))) (nA (LastF q)) with c | c
  ·exfalso
   have k1 : ContF q (LastF (loH P)) = true := (cont_num hq.1).2 ⟨hqf.symm, by rw [hq.2.1]; exact c3, by omega⟩
   have k2 : ContF P (LastF (loH P)) = true := (cont_num hP).2 ⟨rfl, by rw [← hlow]; exact last_ge hL, hPlast⟩
   have k3 := lastF_cont hL
   rcases Int.lt_or_le P.fLen q.fLen with d | d
   ·have e1 : (loH P).fLen = P.fLen + 1 := rfl
    have hc := nest hL hq.1 k3 k1 (by omega)
    have := covers_cont hL hq.1 hc (lastF_cont hq.1)
    have := ((cont_num hL).1 this).2.2
    omega
   ·have hc := nest hq.1 hP k1 k2 d
    have h1 := covers_cont hq.1 hP hc (lastF_cont hP)
    have h2 := ((cont_num hq.1).1 h1).2.2
    have h3 : ContF P P.fAddr = true := (cont_num hP).2 ⟨rfl, Nat.le_refl _, last_ge hP⟩
    have h4 := ((cont_num hq.1).1 (covers_cont hq.1 hP hc h3)).2.1
    rw [hq.2.1] at h4
    exact hno ⟨h4, by omega⟩
  ·refine hp.2 q ⟨hq.1, hq.2.1, (rk_num (show (LastF q).fV6 = (LastF (loH P)).fV6 from hqf)).2 c⟩

theorem next_some {a : api_Addr} (h : nA a + 1 < 2 ^ wid a.fV6) : NextF a = (mkA a.fV6 (nA a + 1), true) := if_pos h
theorem halves_meet {P : api_Prefix} (hP : pV P) (hl : P.fLen < wid P.fAddr.fV6) : NextF (LastF (loH P)) = ((hiH P).fAddr, true) ∧ nA (LastF (loH P)) + 1 = nA (hiH P).fAddr := by
 have hL := loH_V hP hl
 obtain ⟨l1, l2⟩ := lo_num hP hl
 obtain ⟨u1, u2⟩ := hi_num hP hl
 have hlt := hi_lt hP hl
 have hp : 0 < 2 ^ (fr P - 1) := Nat.pow_pos (by decide)
 have e : nA (LastF (loH P)) + 1 = nA P.fAddr + 2 ^ (fr P - 1) := by
  rw [last_num hL, l2]
  have : fr (loH P) = fr P - 1 := by omega
  rw [this]
  omega
 refine ⟨?_, by rw [u2]; exact e⟩
 rw [next_some (show nA (LastF (loH P)) + 1 < 2 ^ wid (LastF (loH P)).fV6 by rw [e]; exact hlt), e]
 rfl
theorem lo_last_le {P : api_Prefix} (hP : pV P) (hl : P.fLen < wid P.fAddr.fV6) : nA (LastF (hiH P)) = nA (LastF P) ∧ nA (LastF (loH P)) < nA (LastF P) := by
 have hL := loH_V hP hl
 have hH := hiH_V hP hl
 obtain ⟨l1, l2⟩ := lo_num hP hl
 obtain ⟨u1, u2⟩ := hi_num hP hl
 have hp : 0 < 2 ^ (fr P - 1) := Nat.pow_pos (by decide)
 have e2 : 2 ^ fr P = 2 ^ (fr P - 1) + 2 ^ (fr P - 1) := by
  have : fr P = (fr P - 1) + 1 := by omega
  rw [this, Nat.pow_succ]
  simp
  omega
 rw [last_num hH, last_num hP, last_num hL, l2, u2]
 have e1 : fr (loH P) = fr P - 1 := by omega
 have e3 : fr (hiH P) = fr P - 1 := by omega
 rw [e1, e3]
 omega
theorem gl_join {P : api_Prefix} (hP : pV P) (hl : P.fLen < wid P.fAddr.fV6) {b : api_Addr} (hb : b.fV6 = P.fAddr.fV6) (hb1 : nA (LastF (loH P)) < nA b) {l1 l2 : List api_Prefix} (h2 : GL b ((hiH P).fAddr, true) l2)
  {s : api_Addr × Bool} (h1 : GL (LastF (loH P)) s l1) : (ContF (loH P) s.1 = true ∧ s.2 = true ∧ ¬ (nA s.1 ≤ nA P.fAddr ∧ nA (LastF P) ≤ nA b)) ∨ s = ((hiH P).fAddr, true) → GL b s (l1 ++ l2) := by
 have hL := loH_V hP hl
 obtain ⟨m1, m2⟩ := halves_meet hP hl
 induction h1 with
 | @stop s hs =>
  rintro (⟨c1, c2, c3⟩ | rfl)
  ·refine (hs ⟨c2, ?_⟩).elim
   obtain ⟨d1, d2, d3⟩ := (cont_num hL).1 c1
   exact (rk_num (show s.1.fV6 = (LastF (loH P)).fV6 from d1)).2 d3
  ·exact h2
 | @step a p l ha hle ht hg ih =>
  rintro (⟨c1, c2, c3⟩ | e)
  ·obtain ⟨d1, d2, d3⟩ := (cont_num hL).1 c1
   simp only at c1 c3 d1 d2 d3
   have hpf : p.fAddr.fV6 = P.fAddr.fV6 := by rw [ht.1.2.1]; exact d1
   have hpl : nA (LastF p) ≤ nA (LastF (loH P)) := (rk_num (show (LastF p).fV6 = (LastF (loH P)).fV6 from hpf)).1 ht.1.2.2
   have hpg := last_ge ht.1.1
   rw [ht.1.2.1] at hpg
   refine GL.step ha ((rk_num (d1.trans hb.symm)).2 (by omega)) (top_on hP hl c1 hb hb1 c3 ht) (ih ?_)
   have hlt := hi_lt hP hl
   rcases Nat.lt_or_ge (nA (LastF p)) (nA (LastF (loH P))) with c | c
   ·have hn : NextF (LastF p) = (mkA (LastF p).fV6 (nA (LastF p) + 1), true) := by
     refine next_some ?_
     rw [show (LastF p).fV6 = P.fAddr.fV6 from hpf]
     have : nA (hiH P).fAddr = nA P.fAddr + 2 ^ (fr P - 1) := (hi_num hP hl).2
     omega
    left
    rw [hn]
    simp only
    refine ⟨(cont_num hL).2 ⟨hpf, ?_, ?_⟩, trivial, ?_⟩
    ·rw [nA_mkA]; omega
    ·rw [nA_mkA]; omega
    ·rw [nA_mkA]
     rintro ⟨e1, _⟩
     have : nA (loH P).fAddr = nA P.fAddr := rfl
     omega
   ·right
    have : LastF p = LastF (loH P) := by
     refine aV_eq (lastF_V ht.1.1).1 (lastF_V hL).1 hpf (by omega)
    rw [this]
    exact m1
  ·exfalso
   have e1 : a = (hiH P).fAddr := congrArg Prod.fst e
   subst e1
   have := (rk_num (show (hiH P).fAddr.fV6 = (LastF (loH P)).fV6 from rfl)).1 hle
   omega

def loA (x : api_Range) (P : api_Prefix) : api_Addr := if rk x.fFrom ≤ rk P.fAddr then P.fAddr else x.fFrom
noncomputable def hiA (x : api_Range) (P : api_Prefix) : api_Addr := if rk (LastF P) ≤ rk x.fTo then LastF P else x.fTo
structure xV (x : api_Range) : Prop where
 f : aV x.fFrom
 t : aV x.fTo
 v : x.fFrom.fV6 = x.fTo.fV6
 le : rk x.fFrom ≤ rk x.fTo
structure Dv (x : api_Range) (P : api_Prefix) (l : List api_Prefix) : Prop where
 out : (rk (LastF P) < rk x.fFrom ∨ rk x.fTo < rk P.fAddr) → l = []
 gl : rk x.fFrom ≤ rk (LastF P) → rk P.fAddr ≤ rk x.fTo → GL (hiA x P) (loA x P, true) l
 n0 : l.length ≤ 2 * fr P + 1
 n1 : rk x.fFrom ≤ rk P.fAddr → l.length ≤ fr P + 1
 n2 : rk (LastF P) ≤ rk x.fTo → l.length ≤ fr P + 1
 n3 : rk x.fFrom ≤ rk P.fAddr → rk (LastF P) ≤ rk x.fTo → l.length ≤ 1
theorem rk_first_last {P : api_Prefix} (hP : pV P) : rk P.fAddr ≤ rk (LastF P) := (rk_num (show P.fAddr.fV6 = (LastF P).fV6 from rfl)).2 (last_ge hP)
theorem top_self {P : api_Prefix} (hP : pV P) : top P.fAddr (LastF P) P := by
 refine ⟨⟨hP, rfl, Nat.le_refl _⟩, fun q hq => ?_⟩
 have hv : q.fAddr.fV6 = P.fAddr.fV6 := by rw [hq.2.1]
 have h1 := (rk_num (show (LastF q).fV6 = (LastF P).fV6 from hv)).1 hq.2.2
 rw [last_num hq.1, last_num hP, hq.2.1] at h1
 have h2 := fr_eq hP
 have h3 := fr_eq hq.1
 rw [hv] at h3
 rcases Nat.lt_or_ge (fr P) (fr q) with c | c
 ·have : 2 ^ fr P < 2 ^ fr q := Nat.pow_lt_pow_right (by decide) c
  have := Nat.pow_pos (n := fr P) (show 0 < 2 by decide)
  omega
 ·omega
theorem next_gt {a : api_Addr} {t : api_Addr} (h : rk t ≤ rk a) : GL t (NextF a) [] := by
 refine GL.stop ?_
 rintro ⟨h1, h2⟩
 have := (next_rk h1).2.1
 omega
theorem dv_all {x : api_Range} {P : api_Prefix} (hP : pV P) (h1 : rk x.fFrom ≤ rk P.fAddr) (h2 : rk (LastF P) ≤ rk x.fTo) : Dv x P [P] := by
 have h := rk_first_last hP
 refine ⟨fun h => by omega, fun _ _ => ?_, by simp, by simp, by simp, by simp⟩
 unfold loA hiA
 rw [if_pos h1, if_pos h2]
 exact GL.step hP.addr h (top_self hP) (next_gt (Nat.le_refl _))
theorem dv_none {x : api_Range} {P : api_Prefix} (h : rk (LastF P) < rk x.fFrom ∨ rk x.fTo < rk P.fAddr) : Dv x P [] :=
 ⟨fun _ => rfl, fun h1 h2 => by omega, by simp, by simp, by simp, by simp⟩
theorem no_halves {P : api_Prefix} (hP : pV P) (hl : ¬ P.fLen < wid P.fAddr.fV6) : rk (LastF P) = rk P.fAddr := by
 have h1 := fr_eq hP
 have h2 := hP.len1
 have e : fr P = 0 := by omega
 have : nA (LastF P) = nA P.fAddr := by rw [last_num hP, e]; simp
 have hv : (LastF P).fV6 = P.fAddr.fV6 := rfl
 exact Nat.le_antisymm ((rk_num hv).2 (by omega)) ((rk_num hv.symm).2 (by omega))
theorem dv_halves {x : api_Range} (hx : xV x) {P : api_Prefix} (hP : pV P) (hv : x.fFrom.fV6 = P.fAddr.fV6) (hl : P.fLen < wid P.fAddr.fV6) (hin : ¬ (rk x.fFrom ≤ rk P.fAddr ∧ rk (LastF P) ≤ rk x.fTo))
  {l1 l2 : List api_Prefix} (d1 : Dv x (loH P) l1) (d2 : Dv x (hiH P) l2) : Dv x P (l1 ++ l2) := by
 have hL := loH_V hP hl
 have hH := hiH_V hP hl
 obtain ⟨m1, m2⟩ := halves_meet hP hl
 obtain ⟨b1, b2⟩ := lo_last_le hP hl
 have f1 := (lo_num hP hl).1
 have f2 := (hi_num hP hl).1
 have k1 : rk (loH P).fAddr = rk P.fAddr := rfl
 have k2 : rk (LastF (loH P)) + 1 = rk (hiH P).fAddr := by
  have hq : (LastF (loH P)).fV6 = (hiH P).fAddr.fV6 := rfl
  unfold rk
  rw [hq]
  split <;> omega
 have eL : LastF (hiH P) = LastF P := aV_eq (lastF_V hH).1 (lastF_V hP).1 (by unfold LastF; rw [mkA_v6, mkA_v6]; rfl) b1
 have k3 : rk (hiH P).fAddr ≤ rk (LastF P) := by rw [← eL]; exact rk_first_last hH
 have k4 : rk P.fAddr ≤ rk (LastF (loH P)) := by have := rk_first_last hL; rwa [k1] at this
 obtain ⟨o1, g1, n10, n11, n12, n13⟩ := d1
 obtain ⟨o2, g2, n20, n21, n22, n23⟩ := d2
 rw [eL] at o2 g2 n22 n23
 rw [k1] at o1 g1 n11 n13
 have hle := hx.le
 rcases Nat.lt_or_ge (rk (LastF (loH P))) (rk x.fFrom) with c | c
 ·
  have e1 : l1 = [] := o1 (.inl c)
  subst e1
  rw [List.nil_append]
  refine ⟨fun h => o2 (by omega), fun h1 h2 => ?_, by omega, fun h => by omega, fun h => by have := n22 h; omega, fun h _ => by omega⟩
  have e2 : loA x P = loA x (hiH P) := by
   unfold loA
   rw [if_neg (by omega)]
   by_cases c2 : rk x.fFrom ≤ rk (hiH P).fAddr
   ·rw [if_pos c2]; exact rk_inj hx.f hH.addr (by omega)
   ·rw [if_neg c2]
  have e3 : hiA x P = hiA x (hiH P) := by unfold hiA; rw [eL]
  rw [e2, e3]
  exact g2 h1 (by omega)
 ·rcases Nat.lt_or_ge (rk x.fTo) (rk (hiH P).fAddr) with c2 | c2
  ·
   have e1 : l2 = [] := o2 (.inr c2)
   subst e1
   rw [List.append_nil]
   refine ⟨fun h => o1 (by omega), fun h1 h2 => ?_, by omega, fun h => by have := n11 h; omega, fun h => by omega, fun h1 h2 => by omega⟩
   have e2 : loA x P = loA x (loH P) := rfl
   have e3 : hiA x P = hiA x (loH P) := by
    unfold hiA
    rw [if_neg (by omega)]
    by_cases c3 : rk (LastF (loH P)) ≤ rk x.fTo
    ·rw [if_pos c3]; exact rk_inj hx.t (lastF_V hL) (by omega)
    ·rw [if_neg c3]
   rw [e2, e3]
   exact g1 c h2
  ·have hlen : (l1 ++ l2).length = l1.length + l2.length := List.length_append
   have q1 := n12 (by omega)
   have q2 := n21 (by omega)
   refine ⟨fun h => by omega, fun h1 h2 => ?_, by omega, fun h => ?_, fun h => ?_, fun h1 h2 => (hin ⟨h1, h2⟩).elim⟩
   ·have e1 : hiA x (loH P) = LastF (loH P) := by unfold hiA; rw [if_pos (by omega)]
    have e2 : loA x (hiH P) = (hiH P).fAddr := by unfold loA; rw [if_pos (by omega)]
    have e3 : hiA x (hiH P) = hiA x P := by unfold hiA; rw [eL]
    have G1 := g1 c (by omega)
    have G2 := g2 (by omega) c2
    rw [e1] at G1
    rw [e2, e3] at G2
    have hav : (loA x P).fV6 = P.fAddr.fV6 := by unfold loA; split; rfl; exact hv
    have hbv : (hiA x P).fV6 = P.fAddr.fV6 := by unfold hiA; split; rfl; rw [← hx.v]; exact hv
    have hlo : rk (loA x P) ≤ rk (LastF (loH P)) ∧ rk P.fAddr ≤ rk (loA x P) := by unfold loA; split <;> omega
    have hhi : rk (LastF (loH P)) < rk (hiA x P) := by unfold hiA; split <;> omega
    refine gl_join hP hl hbv ?_ G2 G1 (.inl ⟨(cont_num hL).2 ⟨hav, ?_, ?_⟩, rfl, ?_⟩)
    ·rcases Nat.lt_or_ge (nA (LastF (loH P))) (nA (hiA x P)) with d | d
     ·exact d
     ·have := (rk_num (show (hiA x P).fV6 = (LastF (loH P)).fV6 from hbv)).2 d
      omega
    ·exact (rk_num (show (loH P).fAddr.fV6 = (loA x P).fV6 from hav.symm)).1 hlo.2
    ·exact (rk_num (show (loA x P).fV6 = (LastF (loH P)).fV6 from hav)).1 hlo.1
    ·rintro ⟨z1, z2⟩
     have y1 := (rk_num hav).2 z1
     have y2 := (rk_num (show (LastF P).fV6 = (hiA x P).fV6 from hbv.symm)).2 z2
     refine hin ⟨?_, ?_⟩
     ·unfold loA at y1; split at y1 <;> omega
     ·unfold hiA at y2; split at y2 <;> omega
   ·have := n13 h (by omega)
    omega
   ·have := n23 (by omega) h
    omega

theorem div_tot {x : api_Range} (hx : xV x) : ∀ (n : Nat) (P : api_Prefix), pV P → x.fFrom.fV6 = P.fAddr.fV6 → fr P < n → Tot (exchangepointref21_divide n P x) (Dv x P)
 | 0, P, _, _, h => by omega
 | n + 1, P, hP, hv, h => by
  rw [exchangepointref21_divide]
  have hlv := lastF_V hP
  refine Tot.bindOf (rlast_eq hP) (Tot.jnR (fun m : Bool => m = true ↔ (rk (LastF P) < rk x.fFrom ∨ rk x.fTo < rk P.fAddr)) (fun j hj => Tot.bindOf (racmp_eq hlv.1 hx.f.1) (Tot.ite (fun h => hj _ ?_) (fun h => Tot.bindOf (racmp_eq hx.t.1 hP.addr.1) (hj _ ?_)))) (fun m hm => Tot.ite (fun h => Tot.some (dv_none (hm.1 h))) (fun h => ?_)))
  ·exact ⟨fun _ => .inl ((cmpA_lt hlv hx.f).1 (of_decide_eq_true h)), fun _ => rfl⟩
  ·have h := fun e => of_decide_eq_false h ((cmpA_lt hlv hx.f).2 e)
   rw [decide_eq_true_iff, cmpA_lt hx.t hP.addr]
   exact ⟨fun e => .inr e, fun e => e.resolve_left h⟩
  ·have hno : ¬ (rk (LastF P) < rk x.fFrom ∨ rk x.fTo < rk P.fAddr) := fun e => by rw [hm.2 e] at h; cases h
   refine Tot.jnR (fun m : Bool => m = true ↔ (rk x.fFrom ≤ rk P.fAddr ∧ rk (LastF P) ≤ rk x.fTo)) (fun j hj => Tot.bindOf (racmp_eq hx.f.1 hP.addr.1) (Tot.ite (fun h => Tot.bindOf (racmp_eq hlv.1 hx.t.1) (hj _ ?_)) (fun h => hj _ ?_))) (fun m hm2 => Tot.ite (fun h => Tot.some (dv_all hP (hm2.1 h).1 (hm2.1 h).2)) (fun h => ?_))
   ·have h := (cmpA_le hx.f hP.addr).1 (of_decide_eq_true h)
    rw [decide_eq_true_iff, cmpA_le hlv hx.t]
    exact ⟨fun e => ⟨h, e⟩, fun e => e.2⟩
   ·exact ⟨fun e => (by cases e), fun e => (of_decide_eq_false h ((cmpA_le hx.f hP.addr).2 e.1)).elim⟩
   ·have hin : ¬ (rk x.fFrom ≤ rk P.fAddr ∧ rk (LastF P) ≤ rk x.fTo) := fun e => by rw [hm2.2 e] at h; cases h
    have hl : P.fLen < wid P.fAddr.fV6 := by
     by_cases c : P.fLen < wid P.fAddr.fV6
     ·exact c
     ·have := no_halves hP c
      exact (hin ⟨by omega, by omega⟩).elim
    have f1 := (lo_num hP hl).1
    have f2 := (hi_num hP hl).1
    have hlen : ¬ P.fLen = wid P.fAddr.fV6 := by omega
    refine Tot.bindOf (rhalves_eq hP.addr.1) ?_
    unfold HalvesF
    rw [if_pos hP, if_neg hlen]
    refine Tot.bindT (div_tot hx n (loH P) (loH_V hP hl) hv (by omega)) fun l1 d1 => Tot.bindT (div_tot hx n (hiH P) (hiH_V hP hl) hv (by omega)) fun l2 d2 => ?_
    have d := dv_halves hx hP hv hl hin d1 d2
    have := d.n0
    have hw : fr P ≤ 128 := Nat.le_trans (fr_wid P) (wid_le _)
    exact Tot.chk (limB (by omega)) (Tot.some d)
def P0 (v : Bool) : api_Prefix := api_Prefix.mk (api_Addr.mk v 0 0) 0
theorem p0_n (v : Bool) : nA (P0 v).fAddr = 0 := by unfold nA P0; simp
theorem p0_V (v : Bool) : pV (P0 v) := by
 have e : nA (P0 v).fAddr = 0 := p0_n v
 have z : (0 : Int) ≤ 0 ∧ (0 : Int) < 18446744073709551616 := by decide
 refine ⟨⟨⟨z, z⟩, ?_⟩, Int.le_refl _, ?_, ?_⟩
 ·exact .inr ⟨rfl, show (0 : Int) < 4294967296 by decide⟩
 ·show (0 : Int) ≤ _
  omega
 ·rw [e]
  unfold cut
  simp
theorem p0_first {v : Bool} {a : api_Addr} (h : a.fV6 = v) : rk (P0 v).fAddr ≤ rk a := by
 have e : nA (P0 v).fAddr = 0 := p0_n v
 refine (rk_num ?_).2 (by omega)
 exact h.symm
theorem p0_last {v : Bool} {a : api_Addr} (ha : aV a) (h : a.fV6 = v) : rk a ≤ rk (LastF (P0 v)) := by
 have e : nA (P0 v).fAddr = 0 := p0_n v
 have e2 : fr (P0 v) = wid v := by
  have h1 := fr_eq (p0_V v)
  have e4 : (P0 v).fLen = 0 := rfl
  have e5 : (P0 v).fAddr.fV6 = v := rfl
  rw [e4, e5] at h1
  omega
 refine (rk_num ?_).2 ?_
 ·exact h
 ·rw [last_num (p0_V v), e, e2]
  have := aV_lt ha
  rw [h] at this
  omega
theorem div_all {x : api_Range} (hx : xV x) : Tot (exchangepointref21_divide 1000 (P0 x.fFrom.fV6) x) (fun l => GL x.fTo (x.fFrom, true) l ∧ l.length ≤ 257) := by
 have hV := p0_V x.fFrom.fV6
 have hw : fr (P0 x.fFrom.fV6) ≤ 128 := Nat.le_trans (fr_wid _) (wid_le _)
 refine (div_tot hx 1000 _ hV rfl (by omega)).mono fun l d => ⟨?_, by have := d.n0; omega⟩
 have h1 := p0_first (v := x.fFrom.fV6) (a := x.fFrom) rfl
 have h2 := p0_last (v := x.fFrom.fV6) hx.t hx.v.symm
 have hle := hx.le
 have := d.gl (by omega) (by omega)
 have e1 : loA x (P0 x.fFrom.fV6) = x.fFrom := by
  unfold loA
  split
  ·exact rk_inj hV.addr hx.f (by omega)
  ·rfl
 have e2 : hiA x (P0 x.fFrom.fV6) = x.fTo := by
  unfold hiA
  split
  ·exact rk_inj (lastF_V hV) hx.t (by omega)
  ·rfl
 rw [e1, e2] at this
 exact this
theorem gl_one {t : api_Addr} {s : api_Addr × Bool} {l l' : List api_Prefix} (h : GL t s l) : GL t s l' → l = l' := by
 induction h generalizing l' with
 | @stop s hs =>
  intro h'
  cases h' with
  | stop _ => rfl
  | step _ hle _ _ => exact (hs ⟨rfl, hle⟩).elim
 | @step a p l ha hle ht hg ih =>
  intro h'
  cases h' with
  | stop hs => exact (hs ⟨rfl, hle⟩).elim
  | step _ _ ht' hg' =>
   have e := top_one ha ht ht'
   subst e
   rw [ih hg']
open Classical in
/-- a range's fewest prefixes -/
noncomputable def PX (x : api_Range) : List api_Prefix := if h : ∃ l, GL x.fTo (x.fFrom, true) l then Classical.choose h else []
theorem px_is {x : api_Range} {l : List api_Prefix} (h : GL x.fTo (x.fFrom, true) l) : PX x = l := by
 unfold PX
 have hh : ∃ l, GL x.fTo (x.fFrom, true) l := ⟨l, h⟩
 rw [dif_pos hh]
 exact gl_one (Classical.choose_spec hh) h
theorem px_ok {x : api_Range} (hx : xV x) : GL x.fTo (x.fFrom, true) (PX x) ∧ (PX x).length ≤ 257 := by
 obtain ⟨l, _, h1, h2⟩ := div_all hx
 rw [px_is h1]
 exact ⟨h1, h2⟩
theorem flat_snoc {α β : Type} {xs : List α} {k : Nat} (hk : k < xs.length) (f : α → List β) : (xs.take (k + 1)).flatMap f = (xs.take k).flatMap f ++ f xs[k] := by
 rw [take_snoc hk, List.flatMap_append]
 simp
theorem vres_x {r : api_Resources} (h : VRes r) : ∀ x ∈ r.fAddrs, xV x := by
 intro x hx
 obtain ⟨h1, h2, h3⟩ := h.av x hx
 refine ⟨h1, h2, h3, ?_⟩
 have := h.va.1 (ivA x) (List.mem_map_of_mem hx)
 exact this
theorem cpres_eq {r : api_Resources} (hr : VRes r) : resource_Prefixes r = some (r.fAddrs.flatMap PX) := by
 have h1 := hr.la
 refine Tot.eq ?_
 unfold resource_Prefixes
 have hxv := vres_x hr
 refine Tot.bindT (valid_eq hr.R (by have := hr.la; omega) (by have := hr.ls; omega)) fun b hb => ?_
 have hb : b = true := hb.2 hr
 subst hb
 refine Tot.iteF rfl ?_
 refine Tot.bindRng r.fAddrs.length (fun k (b : List api_Prefix) => (((k : Nat) : Int), b)) (fun k b => b = (r.fAddrs.take k).flatMap PX ∧ b.length ≤ 257 * k) (fun l => l = r.fAddrs.flatMap PX) [] rfl (by simp) (fun k b hk hb => ?_) (fun b hb => ?_) (fun l hl => Tot.some hl)
 ·have hw : w64 ((k : Int) + 1) = ((k + 1 : Nat) : Int) := by rw [w64_id (by omega) (by omega)]; rfl
  unfold resource_Prefixes_L0
  have hx := hxv _ (List.getElem_mem hk)
  obtain ⟨g1, g2⟩ := px_ok hx
  have h1 : (b ++ PX r.fAddrs[k]).length ≤ 257 * (k + 1) := by
   have := hb.2
   rw [List.length_append]
   omega
  refine Tot.iteT (by simpa using hk) (Tot.bindIdx k rfl hk (Tot.bindT (greedy_tot hx.t g1 b (fun _ => hx.f) (by have := hb.2; omega)) fun l hl => ?_))
  subst hl
  exact Tot.step (b ++ PX r.fAddrs[k]) (by rw [hw]) ⟨by rw [flat_snoc hk, ← hb.1], h1⟩
 ·unfold resource_Prefixes_L0
  refine Tot.iteF (by simp) (Tot.last ?_)
  have := hb.1
  rw [List.take_length] at this
  exact this

theorem top_num {a t : api_Addr} {p : api_Prefix} (hp : pV p) (ha : p.fAddr = a) (hv : t.fV6 = a.fV6) (h1 : nA a + (2 ^ fr p - 1) ≤ nA t) (h2 : nA t < nA a + (2 ^ (fr p + 1) - 1)) : top a t p := by
 subst ha
 refine ⟨⟨hp, rfl, (rk_num (show (LastF p).fV6 = t.fV6 from hv.symm)).2 (by rw [last_num hp]; exact h1)⟩, fun q hq => ?_⟩
 have e : q.fAddr.fV6 = p.fAddr.fV6 := by rw [hq.2.1]
 have h3 := (rk_num (show (LastF q).fV6 = t.fV6 from e.trans hv.symm)).1 hq.2.2
 rw [last_num hq.1, hq.2.1] at h3
 have k1 := fr_eq hp
 have k2 := fr_eq hq.1
 rw [e] at k2
 rcases Nat.lt_or_ge (fr p) (fr q) with c | c
 ·have : 2 ^ (fr p + 1) ≤ 2 ^ fr q := Nat.pow_le_pow_right (by decide) c
  omega
 ·omega
def ex1 : api_Prefix := api_Prefix.mk (api_Addr.mk false 0 167772160) 31
def ex2 : api_Prefix := api_Prefix.mk (api_Addr.mk false 0 167772162) 32
def exR : api_Range := api_Range.mk (api_Addr.mk false 0 167772160) (api_Addr.mk false 0 167772162)
theorem ex1_fr : fr ex1 = 1 := by unfold fr wid ex1; simp
theorem ex2_fr : fr ex2 = 0 := by unfold fr wid ex2; simp
theorem nA_four (n : Nat) : nA (api_Addr.mk false 0 (n : Int)) = n := by unfold nA; simp
theorem ex1_n : nA ex1.fAddr = 167772160 := nA_four 167772160
theorem ex2_n : nA ex2.fAddr = 167772162 := nA_four 167772162
theorem ex1_V : pV ex1 := by
 have := ex1_n
 refine ⟨aV_four (n := 167772160) (by decide) (by decide), by decide, by decide, ?_⟩
 have e : wid ex1.fAddr.fV6 - ex1.fLen.toNat = 1 := ex1_fr
 rw [e, ex1_n]
 unfold cut
 decide
theorem ex2_V : pV ex2 := by
 refine ⟨aV_four (n := 167772162) (by decide) (by decide), by decide, by decide, ?_⟩
 have e : wid ex2.fAddr.fV6 - ex2.fLen.toNat = 0 := ex2_fr
 rw [e, ex2_n]
 unfold cut
 decide
theorem gl_ex1 : GL exR.fTo (exR.fFrom, true) [ex1, ex2] := by
 have l1 : nA (LastF ex1) = 167772161 := by rw [last_num ex1_V, ex1_fr, ex1_n]
 have e1 : NextF (LastF ex1) = (ex2.fAddr, true) := by
  have hv : (LastF ex1).fV6 = false := by unfold LastF; rw [mkA_v6]; rfl
  rw [next_some (by rw [l1, hv]; decide), l1, hv]
  rfl
 refine GL.step ex1_V.addr ((rk_num (show exR.fFrom.fV6 = exR.fTo.fV6 from rfl)).2 ?_) (top_num ex1_V rfl rfl ?_ ?_) ?_
 ·show nA ex1.fAddr ≤ nA ex2.fAddr
  rw [ex1_n, ex2_n]; decide
 ·show nA ex1.fAddr + _ ≤ nA ex2.fAddr
  rw [ex1_n, ex2_n, ex1_fr]; decide
 ·show nA ex2.fAddr < nA ex1.fAddr + _
  rw [ex1_n, ex2_n, ex1_fr]; decide
 ·rw [e1]
  have l2 : nA (LastF ex2) = nA ex2.fAddr := by rw [last_num ex2_V, ex2_fr]; rfl
  have hv : (LastF ex2).fV6 = ex2.fAddr.fV6 := by unfold LastF; rw [mkA_v6]
  refine GL.step ex2_V.addr (Nat.le_refl _) (top_num ex2_V rfl rfl ?_ ?_) (next_gt ((rk_num ?_).2 ?_))
  ·show nA ex2.fAddr + _ ≤ nA ex2.fAddr
   rw [ex2_fr]; simp
  ·show nA ex2.fAddr < nA ex2.fAddr + _
   rw [ex2_fr]; simp
  ·exact hv.symm
  ·rw [l2]; exact Nat.le_refl _
theorem px_ex1 : PX exR = [ex1, ex2] := px_is gl_ex1
theorem exR_V : VRes (api_Resources.mk [exR] []) := by
 refine ⟨fun x hx => ?_, ?_, fun x hx => (by cases hx), vl_nil, by decide, by decide⟩
 ·rw [List.mem_singleton.1 hx]
  exact ⟨ex1_V.addr, ex2_V.addr, rfl⟩
 ·refine ⟨fun x hx => ?_, List.pairwise_singleton _ _⟩
  rw [List.mem_singleton.1 hx]
  refine (rk_num (show exR.fFrom.fV6 = exR.fTo.fV6 from rfl)).2 ?_
  show nA ex1.fAddr ≤ nA ex2.fAddr
  rw [ex1_n, ex2_n]; decide
theorem awake_eq : exchangepointlaw21_awake = some true := by
 have hV := exR_V
 refine Tot.eq ?_
 unfold exchangepointlaw21_awake
 have e : resource_Prefixes (api_Resources.mk [exR] []) = some [ex1, ex2] := by
  rw [cpres_eq hV]
  simp only [List.flatMap_cons, List.flatMap_nil, List.append_nil, px_ex1]
 refine Tot.bindOf e ?_
 exact ⟨true, rfl, rfl⟩

theorem gl_mem {t : api_Addr} {s : api_Addr × Bool} {l : List api_Prefix} (h : GL t s l) : ∀ p ∈ l, pV p := by
 induction h with
 | stop _ => intro p hp; cases hp
 | step _ _ ht _ ih =>
  intro p hp
  rcases List.mem_cons.1 hp with e | e
  ·rw [e]; exact ht.1.1
  ·exact ih p e
theorem px_mem {l : List api_Range} (h : ∀ x ∈ l, xV x) : ∀ p ∈ l.flatMap PX, pV p := by
 intro p hp
 obtain ⟨x, hx, hp⟩ := List.mem_flatMap.1 hp
 exact gl_mem (px_ok (h x hx)).1 p hp
end Go.Proofs.YtgcilleccigmdaaDoor
