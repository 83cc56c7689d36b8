/- The laws of sets, address by address and number by number, in plain Lean. -/
import Derived.Test.YtgcilleccigmdaaGreatDoorPureSF
import Derived.Test.YtgcilleccigmdaaGreatDoorPureXZ
import Derived.Test.YtgcilleccigmdaaGreatDoorPureQ
namespace Go.Proofs.YtgcilleccigmdaaGreatDoor
open Go Go.Vc

theorem nil_iff {l : List Iv} (h : okI l) : l = [] ↔ ∀ n, ¬ inI n l := by
 constructor
 ·rintro rfl n
  exact inI_nil
 ·intro k
  cases l with
  | nil => rfl
  | cons x l => exact (k x.1 ⟨x, List.mem_cons_self .., Nat.le_refl _, h x (List.mem_cons_self ..)⟩).elim
theorem map_nil_iff {α β : Type} {f : α → β} {l : List α} : l.length = 0 ↔ l.map f = [] := by
 cases l <;> simp
theorem covers_tot {a b : api_Resources} (ha : VRes a) (hb : VRes b) : Tot (resource_Covers a b) (fun c => c = true ↔ (∀ n, cA b n → cA a n) ∧ (∀ n, cS b n → cS a n)) := by
 have l1 := ha.la
 have l2 := ha.ls
 have l3 := hb.la
 have l4 := hb.ls
 have b1 : b.fAddrs.length * (a.fAddrs.length + 1) ≤ 256 * 257 := Nat.mul_le_mul l3 (by omega)
 have b2 : b.fASNs.length * (a.fASNs.length + 1) ≤ 256 * 257 := Nat.mul_le_mul l4 (by omega)
 unfold resource_Covers
 refine Tot.bindOf (of_eq b (by omega) (by omega)) (Tot.bindOf (of_eq a (by omega) (by omega)) ?_)
 refine Tot.bindT (setminus_tot (avp_r hb.av) (by simp only; rw [map_paA]; exact hb.va) (svp_r hb.sv) (avp_r ha.av) (by simp only; rw [map_paA]; exact ha.va) (svp_r ha.sv) (by simp; omega) (by simp; omega) (by simp; omega) (by simp; omega)) fun r hr => ?_
 obtain ⟨⟨r1, r2, r3⟩, r4, r5, r6⟩ := hr
 simp only [map_paA, map_paS, List.length_map] at r2 r3 r5 r6
 obtain ⟨m1, m2, m3⟩ := minusL_ok ha.va hb.va
 obtain ⟨k1, k2, k3⟩ := minusL_ok ha.vs hb.vs
 refine Tot.some ?_
 rw [beq_iff_eq, w64_id (by omega) (by omega)]
 have e1 : r.faddrs.length = 0 ↔ ∀ n, cA b n → cA a n := by
  rw [map_nil_iff (f := ivP), r2, nil_iff m1.1]
  constructor
  ·intro h n hn
   by_cases c : cA a n
   ·exact c
   ·exact (h n ((m2 n).2 ⟨hn, c⟩)).elim
  ·intro h n hn
   obtain ⟨h1, h2⟩ := (m2 n).1 hn
   exact h2 (h n h1)
 have e2 : r.fasns.length = 0 ↔ ∀ n, cS b n → cS a n := by
  rw [map_nil_iff (f := ivI), r5, nil_iff k1.1]
  constructor
  ·intro h n hn
   by_cases c : cS a n
   ·exact c
   ·exact (h n ((k2 n).2 ⟨hn, c⟩)).elim
  ·intro h n hn
   obtain ⟨h1, h2⟩ := (k2 n).1 hn
   exact h2 (h n h1)
 rw [← e1, ← e2]
 omega
theorem full_V {a : api_Addr} (ha : aV a) : pV (api_Prefix.mk a (wid a.fV6)) := by
 have := make_V ha (Nat.le_refl (wid a.fV6))
 rw [Nat.sub_self] at this
 have e : cut (nA a) 0 = nA a := by unfold cut; simp
 rw [e, mkA_nA ha.1] at this
 exact this
theorem hasf_iff {l : List api_Range} {a : api_Addr} (ha : aV a) : HasF l (api_Prefix.mk a (wid a.fV6)) ↔ inI (rk a) (l.map ivA) := by
 unfold HasF inP
 rw [last_full ha]
 constructor
 ·rintro ⟨x, hx, h1, h2⟩
  exact ⟨ivA x, List.mem_map_of_mem hx, h1, h2⟩
 ·rintro ⟨y, hy, h1, h2⟩
  obtain ⟨x, hx, rfl⟩ := List.mem_map.1 hy
  exact ⟨x, hx, h1, h2⟩
theorem in_tot {r : api_Resources} {p q : Nat → Prop} {n m : Nat} (h : Is r p q n m) {a : api_Addr} (ha : aV a) : Tot (exchangepointlaw21_in r a) (fun b => b = true ↔ p (rk a)) := by
 have := h.v.la
 unfold exchangepointlaw21_in
 refine Tot.jnR (fun k : Int => k = wid a.fV6) (fun j hj => Tot.ite (fun h => hj _ (by rw [h]; rfl)) (fun h => hj _ (by rw [h]; rfl))) (fun k hk => ?_)
 subst hk
 refine Tot.bindT (has_eq h.v.av (by omega) (full_V ha)) fun b hb => Tot.some ?_
 rw [hb, hasf_iff ha]
 exact h.a _
theorem hn_tot {r : api_Resources} {p q : Nat → Prop} {n m : Nat} (h : Is r p q n m) {x : Int} (hx : 0 ≤ x) : Tot (resource_HasASN r x) (fun b => b = true ↔ q x.toNat) := by
 have := h.v.ls
 refine (hasn_eq (by omega) x).mono fun b hb => ?_
 rw [hb, ← h.s]
 unfold HasN cS inI
 constructor
 ·rintro ⟨y, hy, h1, h2⟩
  obtain ⟨y0, y1, y2⟩ := h.v.sv y hy
  exact ⟨ivS y, List.mem_map_of_mem hy, by unfold ivS; simp only; omega, by unfold ivS; simp only; omega⟩
 ·rintro ⟨z, hz, h1, h2⟩
  obtain ⟨y, hy, rfl⟩ := List.mem_map.1 hz
  obtain ⟨y0, y1, y2⟩ := h.v.sv y hy
  unfold ivS at h1 h2
  simp only at h1 h2
  exact ⟨y, hy, by omega, by omega⟩
theorem b_or {b c d : Bool} {P Q : Prop} (h1 : b = true ↔ P) (h2 : c = true ↔ Q) (h3 : d = true ↔ P ∨ Q) : (d != (b || c)) = false := by
 rw [← h1, ← h2] at h3
 clear h1 h2
 revert h3
 cases b <;> cases c <;> cases d <;> decide
theorem b_and {b c d : Bool} {P Q : Prop} (h1 : b = true ↔ P) (h2 : c = true ↔ Q) (h3 : d = true ↔ P ∧ Q) : (d != (b && c)) = false := by
 rw [← h1, ← h2] at h3
 clear h1 h2
 revert h3
 cases b <;> cases c <;> cases d <;> decide
theorem b_not {b c d : Bool} {P Q : Prop} (h1 : b = true ↔ P) (h2 : c = true ↔ Q) (h3 : d = true ↔ P ∧ ¬ Q) : (d != (b && (!c))) = false := by
 rw [← h1, ← h2] at h3
 clear h1 h2
 revert h3
 cases b <;> cases c <;> cases d <;> decide
theorem sets_L0 {r2 r4 : api_Resources × exchangepointmake_Deck} (h1 : VRes r2.1) (h2 : VRes r4.1) {l : List api_Addr} (hl : ∀ x ∈ l, aV x) (hn : l.length ≤ 1000) :
  Tot (loop (exchangepointlaw21_ResourceSets_L0 r2 r4) ((0 : Int), l)) (fun m => (∀ x ∈ m, aV x) ∧ m.length ≤ 100000) := by
 have n1 := h1.la
 have n2 := h2.la
 have hlen : (r2.1.fAddrs ++ r4.1.fAddrs).length = r2.1.fAddrs.length + r4.1.fAddrs.length := List.length_append
 have hav : AVr (r2.1.fAddrs ++ r4.1.fAddrs) := fun x hx => (List.mem_append.1 hx).elim (h1.av x) (h2.av x)
 refine Tot.rng (r2.1.fAddrs ++ r4.1.fAddrs).length (fun k (b : List api_Addr) => (((k : Nat) : Int), b)) (fun k b => (∀ x ∈ b, aV x) ∧ b.length ≤ 1000 + 3 * k) _ l rfl ⟨hl, by omega⟩ (fun k b hk hb => ?_) (fun b hb => ?_)
 ·have hw : w64 ((k : Int) + 1) = ((k + 1 : Nat) : Int) := by rw [w64_id (by omega) (by omega)]; rfl
  obtain ⟨b1, b2⟩ := hb
  unfold exchangepointlaw21_ResourceSets_L0
  have hx := hav _ (List.getElem_mem hk)
  generalize hy : (r2.1.fAddrs ++ r4.1.fAddrs)[k] = y at hx
  have two : ∀ x ∈ b ++ [y.fFrom, y.fTo], aV x := fun x hx2 => by
   rcases List.mem_append.1 hx2 with e | e
   ·exact b1 x e
   ·simp only [List.mem_cons, List.not_mem_nil, or_false] at e
    rcases e with rfl | rfl
    ·exact hx.1
    ·exact hx.2.1
  have hl2 : (b ++ [y.fFrom, y.fTo]).length = b.length + 2 := by simp
  obtain ⟨nx, en, hnx⟩ : ∃ nx, exchangepointref01_Next y.fTo = some nx ∧ (nx.2 = true → aV nx.1) := ⟨NextF y.fTo, rnext_eq hx.2.1, fun e => (next_rk e).1⟩
  refine Tot.iteT (decide_eq_true (show (k : Int) < _ by omega)) (Tot.bindIdx k rfl hk (Tot.bindIdx k rfl hk ?_))
  rw [hy]
  refine Tot.bindOf en (Tot.chk (limB (show (b ++ [y.fFrom, y.fTo]).length ≤ 4000000000 by omega)) (Tot.jnR (fun m : List api_Addr => (∀ x ∈ m, aV x) ∧ m.length ≤ 1000 + 3 * (k + 1)) (fun j hj => Tot.ite (fun h => ?_) (fun h => hj _ ⟨two, by simp only; omega⟩)) (fun m hm => Tot.step m (by rw [hw]) hm)))
  have hl3 : (b ++ [y.fFrom, y.fTo] ++ [nx.1]).length = b.length + 3 := by simp
  refine Tot.chk (limB (show (b ++ [y.fFrom, y.fTo] ++ [nx.1]).length ≤ 4000000000 by omega)) (hj _ ⟨fun x hx2 => ?_, by simp only; omega⟩)
  rcases List.mem_append.1 hx2 with e | e
  ·exact two x e
  ·rw [List.mem_singleton.1 e]; exact hnx h
 ·unfold exchangepointlaw21_ResourceSets_L0
  exact Tot.iteF (by simp) (Tot.last ⟨hb.1, show b.length ≤ 100000 by have := hb.2; omega⟩)
section
variable {r2 r4 : api_Resources × exchangepointmake_Deck} {r6 r7 r8 : api_Resources × Int} {p q p' q' : Nat → Prop} {n m n' m' n1 m1 n2 m2 n3 m3 : Nat}
theorem sets_L1 (A : Is r2.1 p q n m) (B : Is r4.1 p' q' n' m') (U : Is r6.1 (fun i => p i ∨ p' i) (fun i => q i ∨ q' i) n1 m1) (I : Is r7.1 (fun i => p i ∧ p' i) (fun i => q i ∧ q' i) n2 m2) (W : Is r8.1 (fun i => p i ∧ ¬ p' i) (fun i => q i ∧ ¬ q' i) n3 m3)
  {l : List api_Addr} (hl : ∀ x ∈ l, aV x) (hn : l.length ≤ 1000000) : Tot (loop (exchangepointlaw21_ResourceSets_L1 r2 r4 r6 r7 r8 l) (0 : Int)) (fun x => x = .inr ()) := by
 refine Tot.rng l.length (fun k (_ : Unit) => ((k : Nat) : Int)) (fun _ _ => True) _ () rfl trivial (fun k _ hk _ => ?_) (fun _ _ => ?_)
 ·have hw : w64 ((k : Int) + 1) = ((k + 1 : Nat) : Int) := by rw [w64_id (by omega) (by omega)]; rfl
  have hx := hl _ (List.getElem_mem hk)
  unfold exchangepointlaw21_ResourceSets_L1
  refine Tot.iteT (by simpa using hk) (Tot.bindIdx k rfl hk (Tot.bindIdx k rfl hk (Tot.bindT (in_tot A hx) fun a ha => Tot.bindT (in_tot B hx) fun b hb => ?_)))
  refine Tot.jnR (fun m : Bool => m = false) (fun j hj => Tot.bindT (in_tot U hx) fun u hu => Tot.iteF (b_or ha hb hu) (Tot.bindT (in_tot I hx) fun i hi => Tot.iteF (b_and ha hb hi) (Tot.bindT (in_tot W hx) fun w hw2 => hj _ (b_not ha hb hw2)))) (fun m hm => Tot.iteF hm (Tot.step () (by rw [hw]) trivial))
 ·unfold exchangepointlaw21_ResourceSets_L1
  exact Tot.iteF (by simp) (Tot.last rfl)
theorem sets_L2 (A : Is r2.1 p q n m) (B : Is r4.1 p' q' n' m') (U : Is r6.1 (fun i => p i ∨ p' i) (fun i => q i ∨ q' i) n1 m1) (I : Is r7.1 (fun i => p i ∧ p' i) (fun i => q i ∧ q' i) n2 m2) (W : Is r8.1 (fun i => p i ∧ ¬ p' i) (fun i => q i ∧ ¬ q' i) n3 m3)
  {x y : Int} (hx : 0 ≤ x) (hy : 0 ≤ w64 (4294967295 - y)) : Tot (loop (exchangepointlaw21_ResourceSets_L2 r2 r4 r6 r7 r8 x y) (0 : Int)) (fun x => x = .inr ()) := by
 unfold exchangepointlaw21_ResourceSets_L2
 generalize hL : ([x, (w64 ((4294967295 : Int) - y)), (0 : Int), (4294967295 : Int)] : List Int) = L
 have h4 : L.length = 4 := by rw [← hL]; rfl
 have hp : ∀ z ∈ L, 0 ≤ z := by
  rw [← hL]
  intro z hz
  simp only [List.mem_cons, List.not_mem_nil, or_false] at hz
  rcases hz with rfl | rfl | rfl | rfl
  ·exact hx
  ·exact hy
  ·decide
  ·decide
 clear hL
 refine Tot.rng 4 (fun k (_ : Unit) => ((k : Nat) : Int)) (fun _ _ => True) _ () rfl trivial (fun k _ hk _ => ?_) (fun _ _ => ?_)
 ·have hw : w64 ((k : Int) + 1) = ((k + 1 : Nat) : Int) := by rw [w64_id (by omega) (by omega)]; rfl
  have hkL : k < L.length := by omega
  have hz := hp _ (List.getElem_mem hkL)
  refine Tot.iteT (decide_eq_true (by omega)) (Tot.bindIdx k rfl hkL (Tot.bindT (hn_tot A hz) fun a ha => Tot.bindT (hn_tot B hz) fun b hb => ?_))
  refine Tot.jnR (fun m : Bool => m = false) (fun j hj => Tot.bindT (hn_tot U hz) fun u hu => Tot.iteF (b_or ha hb hu) (Tot.bindT (hn_tot I hz) fun i hi => Tot.iteF (b_and ha hb hi) (Tot.bindT (hn_tot W hz) fun w hw2 => hj _ (b_not ha hb hw2)))) (fun m hm => Tot.iteF hm (Tot.step () (by rw [hw]) trivial))
 ·exact Tot.iteF (decide_eq_false (by omega)) (Tot.last rfl)
end
theorem valid_t {r : api_Resources} (h : VRes r) : resource_Valid r = some true := by
 have := h.la
 have := h.ls
 obtain ⟨b, e, hb⟩ := valid_eq h.R (by omega) (by omega)
 rw [e, hb.2 h]
theorem sets_law (a0 : List Int) (h0 : (∀ y ∈ a0, I64 y) ∧ a0.length ≤ maxLen) (a1 : List Int) (h1 : (∀ y ∈ a1, I64 y) ∧ a1.length ≤ maxLen) (a2 : List Int) (h2 : (∀ y ∈ a2, I64 y) ∧ a2.length ≤ maxLen) (a3 : Int) (_ : I64 a3) : exchangepointlaw21_ResourceSets a0 a1 a2 a3 = some true := by
 refine Tot.eq ?_
 unfold maxLen at h0 h1 h2
 unfold exchangepointlaw21_ResourceSets
 refine Tot.bindOf (show exchangepointmake_New a0 = some ⟨a0, 0⟩ from rfl) (Tot.bindT (dres_tot _ (new_ok a0 (by omega))) fun r2 hr2 => ?_)
 refine Tot.bindOf (show exchangepointmake_New a1 = some ⟨a1, 0⟩ from rfl) (Tot.bindT (dres_tot _ (new_ok a1 (by omega))) fun r4 hr4 => ?_)
 refine Tot.bindOf (show exchangepointmake_New a2 = some ⟨a2, 0⟩ from rfl) ?_
 have A := is_self hr2.1.1 hr2.1.2.1 hr2.1.2.2
 have B := is_self hr4.1.1 hr4.1.2.1 hr4.1.2.2
 have la := A.la
 have lb := B.la
 obtain ⟨u, e1, U⟩ := uni_is A B (by omega) (by omega)
 obtain ⟨i, e2, I⟩ := int_is A B (by omega) (by omega)
 obtain ⟨w, e3, W⟩ := min_is A B (by omega) (by omega)
 refine Tot.bindOf e1 (Tot.bindOf e2 (Tot.bindOf e3 (Tot.jnR (fun m : Bool => m = false) (fun j hj => Tot.iteF rfl (Tot.bindOf (valid_t U.v) (Tot.iteF rfl (Tot.bindOf (valid_t I.v) (Tot.iteF rfl (Tot.bindOf (valid_t W.v) (hj _ rfl))))))) (fun m hm => Tot.iteF hm ?_))))
 refine Tot.bindT (addr_tot _ (new_ok a2 (by omega))) fun x1 y1 => Tot.bindT (addr_tot _ y1.2) fun x2 y2 => Tot.bindT (addr_tot _ y2.2) fun x3 y3 => ?_
 refine Tot.chk (limB (by omega)) (Tot.chk (limB (by simp only [List.length_append]; omega)) (Tot.bindT (sets_L0 A.v B.v (l := [x1.1, x2.1, x3.1]) (fun x hx => ?_) (by simp)) fun l hl => ?_))
 ·simp only [List.mem_cons, List.not_mem_nil, or_false] at hx
  rcases hx with rfl | rfl | rfl
  ·exact y1.1
  ·exact y2.1
  ·exact y3.1
 have UU : Is ((u, (0 : Int)) : api_Resources × Int).1 _ _ _ _ := U
 refine Tot.bindT (sets_L1 (r6 := (u, 0)) (r7 := (i, 0)) (r8 := (w, 0)) A B U I W hl.1 (by have := hl.2; omega)) ?_
 rintro _ rfl
 have m1 := Int.emod_nonneg a3 (show (30 : Int) ≠ 0 by omega)
 have m2 := Int.emod_nonneg a3 (show (12 : Int) ≠ 0 by omega)
 have m3 := Int.emod_lt_of_pos a3 (show (0 : Int) < 12 by omega)
 refine Tot.bindOf (mod_eq a3 30 (by decide) (by decide)) (Tot.bindOf (mod_eq a3 12 (by decide) (by decide)) (Tot.bindT (sets_L2 (r6 := (u, 0)) (r7 := (i, 0)) (r8 := (w, 0)) A B U I W m1 (by rw [w64_id (by omega) (by omega)]; omega)) ?_))
 rintro _ rfl
 obtain ⟨k, e4, K⟩ := uni_is I W (by omega) (by omega)
 have ek : k = r2.1 := is_one K A (fun n => ⟨fun e => e.elim (fun e => e.1) (fun e => e.1), fun e => by
  by_cases c : cA r4.1 n
  ·exact .inl ⟨e, c⟩
  ·exact .inr ⟨e, c⟩⟩) (fun n => ⟨fun e => e.elim (fun e => e.1) (fun e => e.1), fun e => by
  by_cases c : cS r4.1 n
  ·exact .inl ⟨e, c⟩
  ·exact .inr ⟨e, c⟩⟩)
 have kl := K.v.la
 have ks := K.v.ls
 have ul := U.v.la
 have us := U.v.ls
 refine Tot.bindOf e4 (Tot.jnR (fun m : Bool => m = true) (fun j hj => Tot.iteT rfl ?_) (fun m hm => Tot.some hm))
 rw [ek]
 refine Tot.bindOf (same_self (a := r2.1) (by omega) (by omega)) (Tot.iteT rfl (Tot.bindT (covers_tot U.v A.v) fun c hc => Tot.iteT (hc.2 ⟨fun n hn => (U.a n).2 (.inl hn), fun n hn => (U.s n).2 (.inl hn)⟩) ?_))
 refine Tot.bindT (covers_tot A.v I.v) fun c hc => Tot.iteT (hc.2 ⟨fun n hn => ((I.a n).1 hn).1, fun n hn => ((I.s n).1 hn).1⟩) ?_
 refine Tot.bindT (covers_tot A.v B.v) fun c hc => Tot.bindT (same_tot (a := u) (b := r2.1) (by omega) (by omega)) fun d hd => Tot.iteT ?_ (Tot.bindOf awake_eq (hj _ rfl))
 rw [beq_iff_eq]
 have key : u = r2.1 ↔ (∀ n, cA r4.1 n → cA r2.1 n) ∧ (∀ n, cS r4.1 n → cS r2.1 n) := by
  constructor
  ·intro e
   rw [e] at U
   exact ⟨fun n hn => (U.a n).2 (.inr hn), fun n hn => (U.s n).2 (.inr hn)⟩
  ·rintro ⟨h1, h2⟩
   exact is_one U A (fun n => ⟨fun e => e.elim id (h1 n), .inl⟩) (fun n => ⟨fun e => e.elim id (h2 n), .inl⟩)
 rw [key] at hd
 cases c <;> cases d
 ·rfl
 ·exact (hc.2 (hd.1 rfl))
 ·exact (hd.2 (hc.1 rfl)).symm
 ·rfl
end Go.Proofs.YtgcilleccigmdaaGreatDoor
