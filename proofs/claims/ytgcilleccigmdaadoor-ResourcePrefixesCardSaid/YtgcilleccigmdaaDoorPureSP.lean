/- The prefixes of resources are disjoint, in order and the fewest, in plain Lean. -/
import Derived.Test.YtgcilleccigmdaaDoorPureSM
import Derived.Test.YtgcilleccigmdaaDoorPureX
namespace Go.Proofs.YtgcilleccigmdaaDoor
open Go Go.Vc

theorem and_one {X : Nat} (hX : X < 256) : bitI .and .i64 (X : Int) 1 = ((X % 2 : Nat) : Int) := by
 have key : ∀ X : Fin 256, bitI .and .i64 ((X : Nat) : Int) 1 = (((X : Nat) % 2 : Nat) : Int) := by decide +kernel
 exact key ⟨X, hX⟩
theorem shr8 (X k : Nat) (hk : k ≤ 7) : shrI .u8 (X : Int) (k : Int) = ((X / 2 ^ k : Nat) : Int) := by
 show (X : Int).fdiv (2 ^ (min (k : Int).toNat IntKind.u8.bits)) = _
 rw [show (min (k : Int).toNat IntKind.u8.bits) = k from by show min k 8 = k; omega, Int.fdiv_eq_ediv_of_nonneg _ (Int.le_of_lt (Int.pow_pos (by decide)))]
 have : ((2 : Int) ^ k) = ((2 ^ k : Nat) : Int) := by rw [Int.natCast_pow]; rfl
 rw [this]
 rfl
theorem rbit_tot {a : api_Addr} (ha : aV a) {j : Nat} (hj : j < wid a.fV6) : Tot (exchangepointref02_Bit a (j : Int)) (fun r => r = if (nA a).testBit (wid a.fV6 - 1 - j) then 1 else 0) := by
 unfold exchangepointref02_Bit
 refine Tot.bindT (bytes_eq ha) fun b hb => ?_
 obtain ⟨h1, h2, h3⟩ := hb
 have hw := wid_le a.fV6
 have hjb : j < 8 * b.length := by omega
 have hk : j / 8 < b.length := by omega
 have hx := h2 _ (List.getElem_mem hk)
 refine Tot.iteF ?_ ?_
 ·simp only [Bool.or_eq_false_iff, decide_eq_false_iff_not]
  rw [w64_id (by omega) (by omega)]
  omega
 ·rw [idx8 (by omega)]
  refine Tot.bindIdx (j / 8) rfl hk (Tot.some ?_)
  have e := VB_bit h2 hjb
  rw [h3, h1] at e
  rw [e]
  unfold bt
  rw [getD_mem hk]
  obtain ⟨X, hX⟩ : ∃ X : Nat, b[j / 8] = X := ⟨b[j / 8].toNat, by have := hx.1; omega⟩
  rw [hX] at hx ⊢
  have hX2 : X < 256 := by have := hx.2; omega
  have e1 : IntKind.u64.wrap ((7 : Int) - IntKind.u64.wrap (Int.tmod (j : Int) 8)) = ((7 - j % 8 : Nat) : Int) := by
   rw [Int.tmod_eq_emod_of_nonneg (by omega), IntKind.wrap_u64, IntKind.wrap_u64]
   omega
  have hle : X / 2 ^ (7 - j % 8) < 256 := Nat.lt_of_le_of_lt (Nat.div_le_self _ _) hX2
  rw [e1, shr8 X _ (by omega), Int.toNat_natCast, Nat.testBit_eq_decide_div_mod_eq]
  generalize X / 2 ^ (7 - j % 8) = Y at hle ⊢
  rw [w64_id (by omega) (by omega), and_one hle]
  by_cases c : Y % 2 = 1
  ·rw [c]; rfl
  ·have : Y % 2 = 0 := by omega
   rw [this]; rfl
theorem common_tot {p q : api_Prefix} (hp : pV p) (hq : pV q) : Tot (exchangepointref02_Common p q) (fun r => r.2 = 0 → p.fAddr.fV6 = q.fAddr.fV6 ∧ ∃ n : Nat, r.1.fLen = n ∧ ∀ j < n, (nA p.fAddr).testBit (wid p.fAddr.fV6 - 1 - j) = (nA q.fAddr).testBit (wid p.fAddr.fV6 - 1 - j)) := by
 unfold exchangepointref02_Common
 have hw := wid_le p.fAddr.fV6
 have hl0 := hp.len0
 have hl1 := hp.len1
 have hm0 := hq.len0
 have hm1 := hq.len1
 refine Tot.jnR (fun m : Bool => m = false) (fun j hj => Tot.bindOf (rvalid_eq hp.addr.1) (Tot.iteF (by rw [validF_iff.2 hp]; rfl) (Tot.bindOf (rvalid_eq hq.addr.1) (hj _ (by rw [validF_iff.2 hq]; rfl))))) (fun m hm => Tot.iteF hm (Tot.ite (fun h => Tot.some fun e => (by cases e)) (fun h => ?_)))
 have hv : p.fAddr.fV6 = q.fAddr.fV6 := by simpa using h
 refine Tot.bindLoop (fun s : Int => ∃ k : Nat, s = k ∧ (k : Int) ≤ p.fLen ∧ ∀ j < k, (nA p.fAddr).testBit (wid p.fAddr.fV6 - 1 - j) = (nA q.fAddr).testBit (wid p.fAddr.fV6 - 1 - j)) (fun s => (p.fLen - s).toNat) (fun s : Int => ∃ k : Nat, s = k ∧ (k : Int) ≤ p.fLen ∧ ∀ j < k, (nA p.fAddr).testBit (wid p.fAddr.fV6 - 1 - j) = (nA q.fAddr).testBit (wid p.fAddr.fV6 - 1 - j)) ⟨0, rfl, hl0, fun j hj => by omega⟩ ?_ ?_
 ·rintro s ⟨k, rfl, hk, hb⟩
  unfold exchangepointref02_Common_L0
  refine Tot.jnR (fun m : Bool => m = true → (k : Int) < p.fLen ∧ (nA p.fAddr).testBit (wid p.fAddr.fV6 - 1 - k) = (nA q.fAddr).testBit (wid p.fAddr.fV6 - 1 - k)) (fun j hj => Tot.ite (fun h => ?_) (fun h => hj _ fun e => by cases e)) (fun m hm => Tot.ite (fun h => ?_) (fun h => Tot.out ⟨k, rfl, hk, hb⟩))
  ·simp only [Bool.and_eq_true, decide_eq_true_eq] at h
   refine Tot.bindT (rbit_tot hp.addr (j := k) (by omega)) fun x hx => Tot.bindT (rbit_tot hq.addr (j := k) (by omega)) fun y hy => hj _ fun e => ⟨h.1, ?_⟩
   have e := beq_iff_eq.1 e
   rw [hx, hy, ← hv] at e
   cases c1 : (nA p.fAddr).testBit (wid p.fAddr.fV6 - 1 - k) <;> cases c2 : (nA q.fAddr).testBit (wid p.fAddr.fV6 - 1 - k) <;> simp [c1, c2] at e ⊢
  ·obtain ⟨h1, h2⟩ := hm h
   have hw2 : w64 ((k : Int) + 1) = ((k + 1 : Nat) : Int) := by rw [w64_id (by omega) (by omega)]; rfl
   refine Tot.next ⟨k + 1, hw2, by omega, fun j hj => ?_⟩ (by rw [hw2]; omega)
   rcases Nat.lt_or_ge j k with c | c
   ·exact hb j c
   ·have : j = k := by omega
    subst this
    exact h2
 ·rintro s ⟨k, rfl, hk, hb⟩
  refine Tot.bindOf (rmake_eq hp.addr.1 _) (Tot.some fun _ => ⟨hv, k, ?_, hb⟩)
  simp only
  rw [makeF_ok hp.addr (by omega)]
structure Adj (p q : api_Prefix) : Prop where
 hp : pV p
 hq : pV q
 lt : rk (LastF p) < rk q.fAddr
 ns : ¬ (p.fAddr.fV6 = q.fAddr.fV6 ∧ p.fLen = q.fLen ∧ nA q.fAddr = nA p.fAddr + 2 ^ fr p ∧ cut (nA p.fAddr) (fr p + 1) = nA p.fAddr)
def Ch : List api_Prefix → Prop
 | [] => True
 | p :: l => (∀ q, l.head? = some q → Adj p q) ∧ Ch l
theorem ch_get : ∀ {l : List api_Prefix}, Ch l → ∀ i (h : i + 1 < l.length), Adj (l[i]'(by omega)) l[i + 1]
 | [], _, i, h => by simp at h
 | [p], _, i, h => by simp at h
 | p :: q :: l, hc, 0, h => hc.1 q rfl
 | p :: q :: l, hc, i + 1, h => by
  have := ch_get hc.2 i (by simpa using h)
  simpa using this
theorem ch_app : ∀ {l m : List api_Prefix}, Ch l → Ch m → (∀ p ∈ l, ∀ q, m.head? = some q → Adj p q) → Ch (l ++ m)
 | [], m, _, hm, _ => hm
 | p :: l, m, hl, hm, h => by
  refine ⟨fun q hq => ?_, ch_app hl.2 hm fun p' hp' => h p' (List.mem_cons_of_mem _ hp')⟩
  cases l with
  | nil => exact h p (List.mem_cons_self ..) q hq
  | cons r l => exact hl.1 q hq
theorem gl_head {t : api_Addr} {s : api_Addr × Bool} {l : List api_Prefix} (h : GL t s l) {q : api_Prefix} (hq : l.head? = some q) : s.2 = true ∧ q.fAddr = s.1 ∧ top s.1 t q := by
 cases h with
 | stop _ => cases hq
 | step ha hle ht hg =>
  simp only [List.head?_cons, Option.some.injEq] at hq
  subst hq
  exact ⟨rfl, ht.1.2.1, ht⟩
theorem gl_bounds {t : api_Addr} {s : api_Addr × Bool} {l : List api_Prefix} (h : GL t s l) : ∀ p ∈ l, s.2 = true ∧ rk s.1 ≤ rk p.fAddr ∧ rk (LastF p) ≤ rk t := by
 induction h with
 | stop _ => intro p hp; cases hp
 | @step a p l ha hle ht hg ih =>
  intro x hx
  rcases List.mem_cons.1 hx with e | e
  ·subst e
   exact ⟨rfl, by rw [ht.1.2.1]; exact Nat.le_refl _, ht.1.2.2⟩
  ·obtain ⟨i1, i2, i3⟩ := ih x e
   have h1 := (next_rk i1).2.1
   have h2 := rk_first_last ht.1.1
   rw [ht.1.2.1] at h2
   exact ⟨rfl, by simp only; omega, i3⟩
theorem up_V {p : api_Prefix} (hp : pV p) (h0 : 0 < p.fLen) (hc : cut (nA p.fAddr) (fr p + 1) = nA p.fAddr) : pV (api_Prefix.mk p.fAddr (p.fLen - 1)) ∧ fr (api_Prefix.mk p.fAddr (p.fLen - 1)) = fr p + 1 := by
 have h1 := hp.len1
 have e : fr (api_Prefix.mk p.fAddr (p.fLen - 1)) = fr p + 1 := by unfold fr; simp only; omega
 refine ⟨⟨hp.addr, by simp only; omega, by simp only; omega, ?_⟩, e⟩
 have e2 : wid (api_Prefix.mk p.fAddr (p.fLen - 1)).fAddr.fV6 - (api_Prefix.mk p.fAddr (p.fLen - 1)).fLen.toNat = fr p + 1 := e
 rw [e2]
 exact hc
theorem gl_ch {t : api_Addr} {s : api_Addr × Bool} {l : List api_Prefix} (h : GL t s l) : Ch l := by
 induction h with
 | stop _ => trivial
 | @step a p l ha hle ht hg ih =>
  refine ⟨fun q hq => ?_, ih⟩
  obtain ⟨h1, h2, h3⟩ := gl_head hg hq
  have hn := next_rk h1
  have hqv := h3.1.1
  refine ⟨ht.1.1, hqv, by rw [h2]; omega, ?_⟩
  rintro ⟨e1, e2, e3, e4⟩
  have hf : fr q = fr p := by unfold fr; rw [e1, e2]
  have h0 : 0 < p.fLen := by
   have := ht.1.1.len0
   have hlt := aV_lt hqv.addr
   have hfp := fr_eq ht.1.1
   rcases Int.lt_or_le 0 p.fLen with c | c
   ·exact c
   ·have : fr p = wid p.fAddr.fV6 := by omega
    rw [e3, this, ← e1] at hlt
    omega
  obtain ⟨u1, u2⟩ := up_V ht.1.1 h0 e4
  have := ht.2 _ ⟨u1, ht.1.2.1, ?_⟩
  ·simp only at this
   omega
  ·have k1 := h3.1.2.2
   have kk : rk (LastF (api_Prefix.mk p.fAddr (p.fLen - 1))) = rk (LastF q) := by
    have ev : (LastF (api_Prefix.mk p.fAddr (p.fLen - 1))).fV6 = (LastF q).fV6 := by unfold LastF; rw [mkA_v6, mkA_v6]; exact e1
    have en : nA (LastF (api_Prefix.mk p.fAddr (p.fLen - 1))) = nA (LastF q) := by
     rw [last_num u1, last_num hqv, u2, hf, e3, Nat.pow_succ]
     have := Nat.pow_pos (n := fr p) (show 0 < 2 by decide)
     simp only
     omega
    exact Nat.le_antisymm ((rk_num ev).2 (by omega)) ((rk_num ev.symm).2 (by omega))
   rw [kk]
   exact k1
theorem inI_fst' {l : List Iv} (h : VL l) {x : Iv} (hx : x ∈ l) : inI x.1 l := ⟨x, hx, Nat.le_refl _, h.1 x hx⟩
theorem px_ch : ∀ {l : List api_Range}, (∀ x ∈ l, xV x) → VL (l.map ivA) → Ch (l.flatMap PX)
 | [], _, _ => trivial
 | x :: l, h, hv => by
  have hx := h x (List.mem_cons_self ..)
  have hl : ∀ y ∈ l, xV y := fun y hy => h y (List.mem_cons_of_mem _ hy)
  rw [List.flatMap_cons]
  refine ch_app (gl_ch (px_ok hx).1) (px_ch hl hv.tail) fun p hp q hq => ?_
  have hqm : q ∈ l.flatMap PX := List.mem_of_head? hq
  obtain ⟨y, hy, hqy⟩ := List.mem_flatMap.1 hqm
  have b1 := (gl_bounds (px_ok hx).1 p hp).2.2
  have b2 := (gl_bounds (px_ok (hl y hy)).1 q hqy).2.1
  have hh : (ivA x).2 + 1 < rk y.fFrom := by
   have : inI (ivA y).1 (l.map ivA) := inI_fst' hv.tail (List.mem_map_of_mem hy)
   exact hv.head this
  have hh : rk x.fTo + 1 < rk y.fFrom := hh
  simp only at b2
  have hpv := gl_mem (px_ok hx).1 p hp
  have hqv := gl_mem (px_ok (hl y hy)).1 q hqy
  refine ⟨hpv, hqv, by omega, ?_⟩
  rintro ⟨e1, e2, e3, e4⟩
  have hln := last_num hpv
  have := Nat.pow_pos (n := fr p) (show 0 < 2 by decide)
  have : rk q.fAddr = rk (LastF p) + 1 := by
   have ev : (LastF p).fV6 = q.fAddr.fV6 := by unfold LastF; rw [mkA_v6]; exact e1
   unfold rk
   rw [ev]
   split <;> omega
  omega
theorem gl_in {t : api_Addr} (ht : aV t) {s : api_Addr × Bool} {l : List api_Prefix} (h : GL t s l) : (s.2 = true → aV s.1 ∧ s.1.fV6 = t.fV6) → ∀ n, inI n ((l.map rangeP).map ivA) ↔ (s.2 = true ∧ rk s.1 ≤ n ∧ n ≤ rk t) := by
 induction h with
 | @stop s hs =>
  intro _ n
  refine ⟨fun e => (inI_nil e).elim, fun e => (hs ⟨e.1, by omega⟩).elim⟩
 | @step a p l ha hle hp hg ih =>
  intro hv n
  have hpv := hp.1.1
  have hpf : (LastF p).fV6 = t.fV6 := by
   have : (LastF p).fV6 = p.fAddr.fV6 := by unfold LastF; rw [mkA_v6]
   rw [this, hp.1.2.1]
   exact (hv rfl).2
  have hfl := rk_first_last hpv
  rw [hp.1.2.1] at hfl
  have hlt := hp.1.2.2
  have hi := ih (fun e => ⟨(next_rk e).1, (next_rk e).2.2.trans hpf⟩) n
  rw [List.map_cons, List.map_cons, inI_cons, hi]
  have e1 : (ivA (rangeP p)).1 = rk a := by
   show rk p.fAddr = _
   rw [hp.1.2.1]
  have e2 : (ivA (rangeP p)).2 = rk (LastF p) := rfl
  rw [e1, e2]
  constructor
  ·rintro (h | ⟨h1, h2, h3⟩)
   ·exact ⟨rfl, h.1, by omega⟩
   ·have := (next_rk h1).2.1
    exact ⟨rfl, by simp only; omega, h3⟩
  ·rintro ⟨_, h1, h2⟩
   simp only at h1
   rcases Nat.lt_or_ge (rk (LastF p)) n with c | c
   ·right
    have hn : (NextF (LastF p)).2 = true := by
     cases e : (NextF (LastF p)).2 with
     | true => rfl
     | false => have := rk_last (lastF_V hpv) ht hpf e; omega
    have := (next_rk hn).2.1
    exact ⟨hn, by omega, h2⟩
   ·exact .inl ⟨h1, c⟩
theorem px_in {l : List api_Range} (h : ∀ x ∈ l, xV x) (n : Nat) : inI n (((l.flatMap PX).map rangeP).map ivA) ↔ inI n (l.map ivA) := by
 induction l with
 | nil => exact Iff.rfl
 | cons x l ih =>
  have hx := h x (List.mem_cons_self ..)
  rw [List.flatMap_cons, List.map_append, List.map_append, inI_app, ih fun y hy => h y (List.mem_cons_of_mem _ hy), gl_in hx.t (px_ok hx).1 (fun _ => ⟨hx.f, hx.v⟩) n, List.map_cons, inI_cons]
  exact or_congr ⟨fun e => e.2, fun e => ⟨rfl, e⟩⟩ Iff.rfl
theorem pref_L0 {l : List api_Prefix} (hc : Ch l) (hl : l.length ≤ 1000000) : Tot (loop (exchangepointlaw21_ResourcePrefixes_L0 l) (1 : Int)) (fun x => x = .inr ()) := by
 refine Tot.rng (l.length - 1) (fun k (_ : Unit) => ((k + 1 : Nat) : Int)) (fun _ _ => True) _ () rfl trivial (fun k _ hk _ => ?_) (fun _ _ => ?_)
 ·have hw : w64 (((k + 1 : Nat) : Int) + 1) = ((k + 1 + 1 : Nat) : Int) := by rw [w64_id (by omega) (by omega)]; rfl
  have hw2 : w64 (((k + 1 : Nat) : Int) - 1) = (k : Int) := by rw [w64_id (by omega) (by omega)]; omega
  have hk1 : k + 1 < l.length := by omega
  have hk0 : k < l.length := by omega
  obtain ⟨hp, hq, hlt, hns⟩ := ch_get hc k hk1
  have hfl := rk_first_last hp
  unfold exchangepointlaw21_ResourcePrefixes_L0
  rw [hw2, hw]
  refine Tot.iteT (decide_eq_true (by omega)) (Tot.jnR (fun m : Bool => m = false) (fun j hj => ?_) (fun m hm => Tot.iteF hm ?_))
  ·refine Tot.bindIdx k rfl hk0 (Tot.bindIdx (k + 1) rfl hk1 (Tot.bindOf (rpcmp_eq hp.addr.1 hq.addr.1) (Tot.iteF (decide_eq_false ?_) (Tot.bindIdx k rfl hk0 (Tot.bindIdx (k + 1) rfl hk1 (Tot.bindOf (rcovers_eq _ hq.addr) (hj _ ?_)))))))
   ·have : cmpP l[k] l[k + 1] < 0 := (cmpP_lt _ _).2 (.inl ((aLt_rk hp.addr hq.addr).2 (by omega)))
    omega
   ·cases e : CoversF l[k] l[k + 1] with
    | false => rfl
    | true =>
     unfold CoversF at e
     simp only [Bool.and_eq_true] at e
     have h1 := (cont_num hp).1 e.2
     have ev : l[k + 1].fAddr.fV6 = (LastF l[k]).fV6 := by unfold LastF; rw [mkA_v6]; exact h1.1
     have := (rk_num ev).2 h1.2.2
     omega
  ·refine Tot.bindIdx k rfl hk0 (Tot.bindIdx (k + 1) rfl hk1 (Tot.bindT (common_tot hp hq) fun r hr => ?_))
   refine Tot.jnR (fun m : Bool => m = false) (fun j hj => Tot.ite (fun h => ?_) (fun h => hj _ rfl)) (fun m hm => Tot.iteF hm (Tot.step () rfl trivial))
   obtain ⟨hv, n, hn, hb⟩ := hr (beq_iff_eq.1 h)
   refine Tot.bindIdx (k + 1) rfl hk1 (Tot.ite (fun h2 => ?_) (fun h2 => hj _ rfl))
   refine Tot.bindIdx k rfl hk0 (Tot.bindIdx (k + 1) rfl hk1 (hj _ ?_))
   rw [beq_eq_false_iff_ne]
   intro e
   have h2 := beq_iff_eq.1 h2
   have l0 := hq.len0
   have l1 := hq.len1
   have hwd := wid_le l[k + 1].fAddr.fV6
   rw [hn, w64_id (by omega) (by omega)] at h2
   -- the first bits are the same: halves of one
   have hf : fr l[k + 1] = fr l[k] := by unfold fr; rw [hv, e]
   have hfe := fr_eq hp
   have hwk : wid l[k].fAddr.fV6 = wid l[k + 1].fAddr.fV6 := by rw [hv]
   have hcut : nA l[k].fAddr / 2 ^ (fr l[k] + 1) = nA l[k + 1].fAddr / 2 ^ (fr l[k] + 1) := by
    refine Nat.eq_of_testBit_eq fun i => ?_
    rw [Nat.testBit_div_two_pow, Nat.testBit_div_two_pow]
    rcases Nat.lt_or_ge (fr l[k] + 1 + i) (wid l[k].fAddr.fV6) with c | c
    ·have := hb (wid l[k].fAddr.fV6 - 1 - (fr l[k] + 1 + i)) (by omega)
     rw [show wid l[k].fAddr.fV6 - 1 - (wid l[k].fAddr.fV6 - 1 - (fr l[k] + 1 + i)) = fr l[k] + 1 + i from by omega] at this
     rw [Nat.add_comm i]
     exact this
    ·have z1 : nA l[k].fAddr < 2 ^ (i + (fr l[k] + 1)) := Nat.lt_of_lt_of_le (aV_lt hp.addr) (Nat.pow_le_pow_right (by decide) (by omega))
     have z2 : nA l[k + 1].fAddr < 2 ^ (i + (fr l[k] + 1)) := Nat.lt_of_lt_of_le (aV_lt hq.addr) (Nat.pow_le_pow_right (by decide) (by omega))
     rw [Nat.testBit_lt_two_pow z1, Nat.testBit_lt_two_pow z2]
   have c1 := low_fr hp
   have c2 := low_fr hq
   rw [hf] at c2
   have hgt : nA l[k].fAddr < nA l[k + 1].fAddr := by
    rcases Nat.lt_or_ge (nA l[k].fAddr) (nA l[k + 1].fAddr) with c | c
    ·exact c
    ·have := (rk_num hv.symm).2 c
     omega
   have hns2 : ¬ (nA l[k + 1].fAddr = nA l[k].fAddr + 2 ^ fr l[k] ∧ cut (nA l[k].fAddr) (fr l[k] + 1) = nA l[k].fAddr) := fun z => hns ⟨hv, e, z.1, z.2⟩
   generalize nA l[k].fAddr = A at hcut c1 hgt hns2
   generalize nA l[k + 1].fAddr = B at hcut c2 hgt hns2
   generalize fr l[k] = f at hcut c1 c2 hns2
   unfold cut at c1 c2 hns2
   have hpos : 0 < 2 ^ f := Nat.pow_pos (by decide)
   have e3 : 2 ^ (f + 1) = 2 ^ f * 2 := Nat.pow_succ ..
   rw [e3] at hcut hns2
   rw [← Nat.div_div_eq_div_mul, ← Nat.div_div_eq_div_mul] at hcut
   generalize 2 ^ f = w at *
   have a1 : A / w * w = A := c1
   have a2 : B / w * w = B := c2
   have a3 : A / w < B / w := Nat.lt_of_mul_lt_mul_right (by rw [a1, a2]; exact hgt)
   have a4 : B / w = A / w + 1 := by omega
   have a5 : A / w / 2 * 2 = A / w := by omega
   refine hns2 ⟨by rw [← a2, a4, Nat.succ_mul, a1], ?_⟩
   rw [← Nat.div_div_eq_div_mul, Nat.mul_comm w 2, ← Nat.mul_assoc, a5, a1]
 ·unfold exchangepointlaw21_ResourcePrefixes_L0
  exact Tot.iteF (decide_eq_false (by omega)) (Tot.last rfl)
theorem rpres_len {l : List api_Range} (h : ∀ x ∈ l, xV x) : (l.flatMap PX).length ≤ 257 * l.length := by
 induction l with
 | nil => simp
 | cons x l ih =>
  have := (px_ok (h x (List.mem_cons_self ..))).2
  have := ih fun y hy => h y (List.mem_cons_of_mem _ hy)
  rw [List.flatMap_cons, List.length_append, List.length_cons]
  omega
theorem prefixes_law (a0 : List Int) (h0 : (∀ y ∈ a0, I64 y) ∧ a0.length ≤ maxLen) : exchangepointlaw21_ResourcePrefixes a0 = some true := by
 refine Tot.eq ?_
 unfold maxLen at h0
 unfold exchangepointlaw21_ResourcePrefixes
 refine Tot.bindOf (show exchangepointmake_New a0 = some ⟨a0, 0⟩ from rfl) (Tot.bindT (dres_tot _ (new_ok a0 (by omega))) fun r hr => ?_)
 obtain ⟨⟨hv, n1, n2⟩, hd⟩ := hr
 have hx := vres_x hv
 have hm := px_mem hx
 have hlen := (rpres_len hx)
 refine Tot.bindOf (cpres_eq hv) (Tot.bindT (cof_tot (ps := r.1.fAddrs.flatMap PX) (ss := r.1.fASNs) (fun p hp => (hm p hp).addr.1) (by omega) (by omega)) fun x hxx => ?_)
 obtain ⟨a, s, o, rfl⟩ := hxx.1 ⟨hm, hv.sv⟩
 have e1 : a = r.1.fAddrs := addrs_one o.av hv.av o.va hv.va fun n => (o.ia n).trans (px_in hx n)
 have e2 : s = r.1.fASNs := spans_one o.sv hv.sv o.vs hv.vs fun n => o.is n
 have e3 : LimF a s = (r.1, 0) := by
  unfold LimF
  rw [e1, e2, if_neg (by omega)]
 rw [e3]
 refine Tot.jnR (fun m : Bool => m = false) (fun j hj => Tot.iteF rfl (Tot.bindOf (same_self (a := r.1) (by omega) (by omega)) (hj _ rfl))) (fun m hm2 => Tot.iteF hm2 (Tot.bindT (pref_L0 (px_ch hx hv.va) (by omega)) ?_))
 rintro _ rfl
 exact Tot.bindOf awake_eq (Tot.some rfl)
end Go.Proofs.YtgcilleccigmdaaDoor
