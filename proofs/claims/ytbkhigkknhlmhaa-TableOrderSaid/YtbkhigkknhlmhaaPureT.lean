/- The law of orders in plain Lean. -/
import Derived.Test.YtbkhigkknhlmhaaPureL
namespace Go.Proofs.Ytbkhigkknhlmhaa
open Go Go.Vc

theorem put_ok {t : List api_Entry} (h : TV t) (hl : t.length ≤ 100) {p : api_Prefix} (hp : pV p) (v : Int) : PutF t p v = (SetL t p v, 0) := by
  have := set_len p v t
  unfold PutF
  rw [if_pos ⟨validT_iff.2 ⟨h, by omega⟩, validF_iff.2 hp⟩, if_neg (by omega)]
/-- the numbers turned by m -/
def rot (n m k : Nat) : Nat := (k + m) % n
theorem rot_all {n m j : Nat} (hm : m < n) (hj : j < n) : ∃ k, k < n ∧ rot n m k = j := by
  unfold rot
  by_cases h : m ≤ j
  · exact ⟨j - m, by omega, by rw [Nat.sub_add_cancel h, Nat.mod_eq_of_lt hj]⟩
  · refine ⟨j + n - m, by omega, ?_⟩
    rw [show j + n - m + m = j + n from by omega, Nat.add_mod_right, Nat.mod_eq_of_lt hj]
theorem order_list (n : Nat) (hn : n ≤ 8) (d : exchangepointmake_Deck) (hd : DeckOk d) : Tot (loop exchangepointlaw03_TableOrder_L0 ((n : Int), ([] : List api_Prefix), d)) (fun x => (∀ p ∈ x.1, pV p) ∧ x.1.length ≤ 8 ∧ DeckOk x.2) := by
  refine Tot.rng n (fun k (b : List api_Prefix × exchangepointmake_Deck) => (((n - k : Nat) : Int), b.1, b.2)) (fun k b => (∀ p ∈ b.1, pV p) ∧ b.1.length = k ∧ DeckOk b.2) _ ([], d) rfl ⟨fun x hx => (by cases hx), rfl, hd⟩ (fun k b hk hb => ?_) (fun b hb => ?_)
  · obtain ⟨hb1, hb2, hb3⟩ := hb
    unfold exchangepointlaw03_TableOrder_L0
    refine Tot.iteT (decide_eq_true (by simp only; omega)) (Tot.bindT (prefix_tot _ hb3) ?_)
    rintro ⟨p, d1⟩ ⟨hp, hd1⟩
    simp only at hp hd1 ⊢
    refine Tot.chk (limB (by simp; omega)) (Tot.step (b.1 ++ [p], d1) ?_ ⟨fun x hm => ?_, by simp; omega, hd1⟩)
    · rw [w64_id (by omega) (by omega), show ((n - k : Nat) : Int) - 1 = ((n - (k + 1) : Nat) : Int) from by omega]
    · rcases List.mem_append.1 hm with hm | hm
      · exact hb1 x hm
      · rw [List.mem_singleton.1 hm]; exact hp
  · obtain ⟨hb1, hb2, hb3⟩ := hb
    unfold exchangepointlaw03_TableOrder_L0
    exact Tot.iteF (decide_eq_false (by simp only; omega)) (Tot.last ⟨hb1, by simp only; omega, hb3⟩)
/-- the table of these prefixes -/
def Is (t : List api_Entry) (S : api_Prefix → Prop) : Prop := ∀ q, (S q → tget t q = some q.fLen) ∧ (¬ S q → tget t q = none)
theorem is_put {t : List api_Entry} (h : TV t) {p : api_Prefix} (hp : pV p) {S : api_Prefix → Prop} (hs : Is t S) : Is (SetL t p p.fLen) (fun q => S q ∨ q = p) := fun q => by
  rw [tget_set hp _ q h]
  constructor
  · intro hq
    by_cases e : p = q
    · rw [if_pos e, e]
    · rw [if_neg e]
      rcases hq with hq | hq
      · exact (hs q).1 hq
      · exact (e hq.symm).elim
  · intro hq
    rw [if_neg (fun e => hq (.inr e.symm))]
    exact (hs q).2 fun g => hq (.inl g)
theorem is_congr {t : List api_Entry} {S S' : api_Prefix → Prop} (h : Is t S) (e : ∀ q, S q ↔ S' q) : Is t S' := fun q => ⟨fun g => (h q).1 ((e q).2 g), fun g => (h q).2 fun k => g ((e q).1 k)⟩
theorem is_ext {s t : List api_Entry} (hs : TV s) (ht : TV t) {S : api_Prefix → Prop} (h : Is s S) (h' : Is t S) : s = t := tget_ext hs ht fun q => by
  by_cases g : S q
  · rw [(h q).1 g, (h' q).1 g]
  · rw [(h q).2 g, (h' q).2 g]
theorem order_loop {a1 : Int} {ps : List api_Prefix} {d : exchangepointmake_Deck} (hps : ∀ p ∈ ps, pV p) (hl : ps.length ≤ 8) :
    Tot (loop (exchangepointlaw03_TableOrder_L1 a1 (ps, d)) (([] : List api_Entry), ([] : List api_Entry), (0 : Int))) (fun x => ∃ t, x = .inr (t, t) ∧ TV t ∧ t.length ≤ 8) := by
  obtain ⟨m, hm⟩ : ∃ m : Nat, (0 < ps.length → m < ps.length) ∧ (0 < ps.length → a1 % (ps.length : Int) = m) := by
    by_cases h : 0 < ps.length
    · have h1 := Int.emod_nonneg a1 (b := (ps.length : Int)) (by omega)
      have h2 := Int.emod_lt_of_pos a1 (b := (ps.length : Int)) (by omega)
      exact ⟨(a1 % (ps.length : Int)).toNat, fun _ => by omega, fun _ => by omega⟩
    · exact ⟨0, fun e => (h e).elim, fun e => (h e).elim⟩
  refine Tot.rng ps.length (fun k (b : List api_Entry × List api_Entry) => (b.1, b.2, ((k : Nat) : Int)))
    (fun k b => (TV b.1 ∧ b.1.length ≤ k ∧ Is b.1 fun q => ∃ j, j < k ∧ ps[j]? = some q) ∧ (TV b.2 ∧ b.2.length ≤ k ∧ Is b.2 fun q => ∃ j, j < k ∧ ps[rot ps.length m j]? = some q)) _ ([], []) rfl ⟨⟨tv_nil, Nat.le_refl _, fun q => ⟨fun ⟨j, h, _⟩ => (by omega), fun _ => rfl⟩⟩, tv_nil, Nat.le_refl _, fun q => ⟨fun ⟨j, h, _⟩ => (by omega), fun _ => rfl⟩⟩ (fun k b hk hb => ?_) (fun b hb => ?_)
  · obtain ⟨⟨b1, b2, b3⟩, c1, c2, c3⟩ := hb
    have hm1 := hm.1 (by omega)
    have hm2 := hm.2 (by omega)
    have hw : w64 ((k : Int) + 1) = ((k + 1 : Nat) : Int) := by rw [w64_id (by omega) (by omega)]; rfl
    have hr : rot ps.length m k < ps.length := Nat.mod_lt _ (by omega)
    have hx := hps _ (List.getElem_mem hk)
    have hy := hps _ (List.getElem_mem hr)
    unfold exchangepointlaw03_TableOrder_L1
    refine Tot.iteT (by simpa using hk) (Tot.bindIdx k rfl hk (Tot.bindIdx k rfl hk (Tot.bindOf (mod_eq a1 ps.length (by omega) (by omega)) (Tot.chk (decide_eq_true (by simp only; omega)) ?_))))
    have hri : Int.tmod (w64 ((k : Int) + a1 % (ps.length : Int))) (ps.length : Int) = (rot ps.length m k : Nat) := by
      rw [hm2, w64_id (by omega) (by omega), Int.tmod_eq_emod_of_nonneg (by omega)]
      unfold rot
      rw [Int.natCast_emod, Int.natCast_add]
    refine Tot.bindIdx (rot ps.length m k) hri hr (Tot.bindIdx (rot ps.length m k) hri hr (Tot.bindOf (put_eq _ b1.R hx.addr.1 (by simp only; omega)) (Tot.bindOf (put_eq _ c1.R hy.addr.1 (by simp only; omega)) ?_)))
    rw [put_ok b1 (by omega) hx, put_ok c1 (by omega) hy]
    have s1 := set_len ps[k] ps[k].fLen b.1
    have s2 := set_len ps[rot ps.length m k] ps[rot ps.length m k].fLen b.2
    refine Tot.iteF rfl (Tot.step (SetL b.1 ps[k] ps[k].fLen, SetL b.2 ps[rot ps.length m k] ps[rot ps.length m k].fLen) (by rw [hw]) ⟨⟨setL_V hx _ b1, by simp only; omega, is_congr (is_put b1 hx b3) fun q => ?_⟩, setL_V hy _ c1, by simp only; omega, is_congr (is_put c1 hy c3) fun q => ?_⟩)
    · constructor
      · rintro (⟨j, h1, h2⟩ | rfl)
        · exact ⟨j, by omega, h2⟩
        · exact ⟨k, by omega, List.getElem?_eq_getElem hk⟩
      · rintro ⟨j, h1, h2⟩
        by_cases e : j = k
        · subst e
          rw [List.getElem?_eq_getElem hk] at h2
          exact .inr (Option.some.inj h2).symm
        · exact .inl ⟨j, by omega, h2⟩
    · constructor
      · rintro (⟨j, h1, h2⟩ | rfl)
        · exact ⟨j, by omega, h2⟩
        · exact ⟨k, by omega, List.getElem?_eq_getElem hr⟩
      · rintro ⟨j, h1, h2⟩
        by_cases e : j = k
        · subst e
          rw [List.getElem?_eq_getElem hr] at h2
          exact .inr (Option.some.inj h2).symm
        · exact .inl ⟨j, by omega, h2⟩
  · obtain ⟨⟨b1, b2, b3⟩, c1, c2, c3⟩ := hb
    unfold exchangepointlaw03_TableOrder_L1
    have e : b.1 = b.2 := is_ext b1 c1 b3 (is_congr c3 fun q => by
      constructor
      · rintro ⟨j, h1, h2⟩
        exact ⟨rot ps.length m j, Nat.mod_lt _ (by omega), h2⟩
      · rintro ⟨j, h1, h2⟩
        obtain ⟨k, k1, k2⟩ := rot_all (hm.1 (by omega)) h1
        exact ⟨k, k1, by rw [k2]; exact h2⟩)
    refine Tot.iteF (by simp) (Tot.last ⟨b.1, ?_, b1, by omega⟩)
    rw [← e]
theorem set_new (p : api_Prefix) (v : Int) : ∀ {t : List api_Entry}, tget t p = none → (SetL t p v).length = t.length + 1
  | [], _ => rfl
  | x :: t, h => by
    have hx : ¬ x.fPrefix = p := fun e => by
      unfold tget at h
      rw [if_pos e] at h; cases h
    unfold tget at h
    rw [if_neg hx] at h
    unfold SetL
    by_cases c : pLt x.fPrefix p
    · rw [if_pos c, List.length_cons, List.length_cons, set_new p v h]
    · rw [if_neg c, if_neg hx]; rfl
/-- the law -/
theorem order_law (a0 : List Int) (h0 : (∀ y ∈ a0, I64 y) ∧ a0.length ≤ maxLen) (a1 : Int) {p1 : Prop} (_ : p1) : exchangepointlaw03_TableOrder a0 a1 = some true := by
  refine Tot.eq ?_
  unfold exchangepointlaw03_TableOrder
  refine Tot.bindOf (show exchangepointmake_New a0 = some ⟨a0, 0⟩ from rfl) (Tot.bindT (next_tot _ (new_ok a0 (by have := h0.2; unfold maxLen at this; omega)) 9 (by omega) (by omega)) ?_)
  rintro ⟨n, d⟩ ⟨n0, n1, hd⟩
  simp only at n0 n1 hd ⊢
  obtain ⟨k, rfl⟩ : ∃ k : Nat, n = k := ⟨n.toNat, by omega⟩
  refine Tot.bindT (order_list k (by omega) d hd) ?_
  rintro ⟨ps, d1⟩ ⟨hps, hpl, hd1⟩
  simp only at hps hpl hd1 ⊢
  refine Tot.bindT (order_loop hps hpl) fun x hx => ?_
  obtain ⟨t, rfl, ht, hl⟩ := hx
  simp only
  refine Tot.jnR (fun m : Bool => m = false) (fun j hj => ?_) (fun m hm => Tot.iteF hm ?_)
  · refine Tot.bindOf (same_self _ (by omega)) (Tot.iteF (by decide) (Tot.bindOf (tvalid_eq ht.R (by omega)) (hj _ ?_)))
    rw [validT_iff.2 ⟨ht, by omega⟩]; rfl
  refine Tot.bindT (prefix_tot _ hd1) ?_
  rintro ⟨p, d2⟩ ⟨hp, hd2⟩
  simp only at hp hd2 ⊢
  refine Tot.bindOf (get_eq ht hp.addr.1 (by omega)) ?_
  cases hg : tget t p with
  | some v => exact Tot.iteT rfl (Tot.bindOf awake_eq (Tot.some rfl))
  | none =>
    refine Tot.iteF rfl (Tot.bindOf (put_eq 1 ht.R hp.addr.1 (by omega)) ?_)
    rw [put_ok ht (by omega) hp]
    have hs := setL_V hp 1 ht
    have hn := set_new p 1 hg
    simp only
    refine Tot.bindOf (remove_eq hs.R hp.addr.1 (by omega)) ?_
    have hfl := without_len (t := SetL t p 1) (p := p) (v := 1) (by rw [tget_set hp _ _ ht, if_pos rfl])
    have hr : RemF (SetL t p 1) p = (t, 0) := by
      unfold RemF
      rw [if_pos ⟨validT_iff.2 ⟨hs, by omega⟩, validF_iff.2 hp⟩, if_neg (by omega)]
      congr 1
      refine tget_ext (filter_V _ hs) ht fun q => ?_
      rw [tget_without, tget_set hp _ _ ht]
      by_cases e : p = q
      · rw [if_pos e, ← e, hg]
      · rw [if_neg e, if_neg e]
    rw [hr]
    refine Tot.jn (Tot.iteT rfl (Tot.bindOf (same_self t (by omega)) (Tot.iteT ?_ (Tot.bindOf awake_eq (Tot.some rfl)))))
    rw [hn, w64_id (by omega) (by omega)]
    simp
end Go.Proofs.Ytbkhigkknhlmhaa
