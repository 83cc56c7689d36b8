/- The law of what resources are valid and what prefixes stand for, in plain Lean. -/
import Derived.Test.YtgcilleccigmdaaDoorPureSV
import Derived.Test.YtgcilleccigmdaaDoorPureX
namespace Go.Proofs.YtgcilleccigmdaaDoor
open Go Go.Vc

theorem bne_F2 {α : Type} [BEq α] [LawfulBEq α] {b c : α} (h : b = c) : (b != c) = false := by subst h; simp
theorem bool_one {b c : Bool} {P : Prop} (h : b = true ↔ P) (k : c = true ↔ P) : b = c := by
  cases b <;> cases c
  · rfl
  · exact h.2 (k.1 rfl)
  · exact (k.2 (h.1 rfl)).symm
  · rfl
theorem limF_len {a : List api_Range} {s : List api_Span} : (LimF a s).1.fAddrs.length ≤ 256 ∧ (LimF a s).1.fASNs.length ≤ 256 := by
  unfold LimF
  split
  · exact ⟨by decide, by decide⟩
  · simp only; omega
theorem of_agree {ps : List api_Prefix} {ss : List api_Span} (hR : ∀ p ∈ ps, aR p.fAddr) (hl : ps.length ≤ 1000000) (hl2 : ss.length ≤ 1000000) :
    ∃ x, resource_Of ps ss = some x ∧ exchangepointref21_Of ps ss = some x ∧ x.1.fAddrs.length ≤ 256 ∧ x.1.fASNs.length ≤ 256 := by
  obtain ⟨x, e, h1, h2⟩ := cof_tot hR hl hl2
  obtain ⟨y, e', k1, k2⟩ := rof_tot hR hl hl2
  by_cases c : (∀ p ∈ ps, pV p) ∧ SVr ss
  · obtain ⟨a, s, o, rfl⟩ := h1 c
    obtain ⟨a', s', o', rfl⟩ := k1 c
    obtain ⟨rfl, rfl⟩ := of_one o o'
    exact ⟨_, e, e', limF_len⟩
  · obtain rfl := h2 c
    obtain rfl := k2 c
    exact ⟨_, e, e', by decide, by decide⟩
theorem makes_L0 {a0 r6 : api_Resources} {r5 : api_Resources × exchangepointmake_Deck} (h : ∀ x ∈ [a0, r5.1, r6], RRes x ∧ x.fAddrs.length ≤ 1000000 ∧ x.fASNs.length ≤ 1000000) : Tot (loop (exchangepointlaw21_ResourceMakes_L0 a0 r5 r6) (0 : Int)) (fun x => x = .inr ()) := by
  refine Tot.rng 3 (fun k (_ : Unit) => ((k : Nat) : Int)) (fun _ _ => True) _ () rfl trivial (fun k _ hk _ => ?_) (fun _ _ => ?_)
  · have hw : w64 ((k : Int) + 1) = ((k + 1 : Nat) : Int) := by rw [w64_id (by omega) (by omega)]; rfl
    unfold exchangepointlaw21_ResourceMakes_L0
    obtain ⟨h1, h2, h3⟩ := h _ (List.getElem_mem (show k < [a0, r5.1, r6].length from hk))
    refine Tot.iteT (decide_eq_true (show (k : Int) < 3 by omega)) (Tot.bindIdx k rfl hk (Tot.bindT (valid_eq h1 h2 h3) fun b hb => Tot.bindT (rvalid21 h1 h2 h3) fun c hc => Tot.iteF (bne_F2 (bool_one hb hc)) (Tot.step () (by rw [hw]) trivial)))
  · unfold exchangepointlaw21_ResourceMakes_L0
    exact Tot.iteF rfl (Tot.last rfl)
theorem makes_L1 (c : Int) (n : Nat) (hn : n ≤ 1000) (hc : w64 (255 + c) = n) : Tot (loop (exchangepointlaw21_ResourceMakes_L1 c) ((0 : Int), ([] : List api_Prefix))) (fun l => (∀ p ∈ l, aR p.fAddr) ∧ l.length = n) := by
  refine Tot.rng n (fun k (l : List api_Prefix) => (((k : Nat) : Int), l)) (fun k l => (∀ p ∈ l, aR p.fAddr) ∧ l.length = k) _ [] rfl ⟨fun p hp => (by cases hp), rfl⟩ (fun k l hk hb => ?_) (fun l hb => ?_)
  · have hw : w64 ((k : Int) + 1) = ((k + 1 : Nat) : Int) := by rw [w64_id (by omega) (by omega)]; rfl
    unfold exchangepointlaw21_ResourceMakes_L1
    rw [hc]
    refine Tot.iteT (decide_eq_true (show (k : Int) < n by omega)) (Tot.chk (limB (by simp; omega)) (Tot.step (l ++ [api_Prefix.mk (api_Addr.mk false 0 (IntKind.u64.wrap (w64 (2 * (k : Int))))) 32]) (by rw [hw]) ⟨fun p hp => ?_, by simp; omega⟩))
    rcases List.mem_append.1 hp with hp | hp
    · exact hb.1 p hp
    · rw [List.mem_singleton.1 hp]
      exact ⟨⟨by simp, by simp⟩, u64_rng _⟩
  · unfold exchangepointlaw21_ResourceMakes_L1
    rw [hc]
    exact Tot.iteF (decide_eq_false (show ¬ (n : Int) < n by omega)) (Tot.last hb)
theorem makes_L3 {a2 : List api_Span} {r42 r43 r44 : Int × exchangepointmake_Deck} {r45 r46 : Int} {ps : List api_Prefix} (hR : ∀ p ∈ ps, aR p.fAddr) (hl : ps.length ≤ 1000) (hl2 : a2.length ≤ 1000) :
    Tot (loop (exchangepointlaw21_ResourceMakes_L3 a2 r42 r43 r44 r45 r46 ps) (0 : Int)) (fun x => x = .inr ()) := by
  unfold exchangepointlaw21_ResourceMakes_L3
  generalize hL : ([a2, ([(api_Span.mk r42.1 (w64 ((4 : Int) + r43.1))), (api_Span.mk (w64 ((9 : Int) + r44.1)) (20 : Int)), (api_Span.mk r45 (w64 ((4294967295 : Int) + r46)))] : List api_Span), ((([(api_Span.mk r42.1 (w64 ((4 : Int) + r43.1))), (api_Span.mk (w64 ((9 : Int) + r44.1)) (20 : Int)), (api_Span.mk r45 (w64 ((4294967295 : Int) + r46)))] : List api_Span).take 2).drop 0)] : List (List api_Span)) = L
  have h3 : L.length = 3 := by rw [← hL]; rfl
  have hs : ∀ x ∈ L, x.length ≤ 1000 := by
    rw [← hL]
    intro x hx
    simp only [List.mem_cons, List.not_mem_nil, or_false] at hx
    rcases hx with rfl | rfl | rfl
    · exact hl2
    · simp
    · simp
  clear hL
  refine Tot.rng 3 (fun k (_ : Unit) => ((k : Nat) : Int)) (fun _ _ => True) _ () rfl trivial (fun k _ hk _ => ?_) (fun _ _ => ?_)
  · have hw : w64 ((k : Int) + 1) = ((k + 1 : Nat) : Int) := by rw [w64_id (by omega) (by omega)]; rfl
    have hkL : k < L.length := by omega
    obtain ⟨x, e1, e2, n1, n2⟩ := of_agree hR (by omega) (ss := L[k]) (by have := hs _ (List.getElem_mem hkL); omega)
    refine Tot.iteT (decide_eq_true (by omega)) (Tot.bindIdx k rfl hkL (Tot.bindOf e1 (Tot.bindOf e2 (Tot.bindOf (same_self (by omega) (by omega)) (Tot.iteF (by simp) (Tot.step () (by rw [hw]) trivial))))))
  · exact Tot.iteF (decide_eq_false (by omega)) (Tot.last rfl)
theorem makes_L2 {a1 : List api_Prefix} {a2 : List api_Span} {p33 : List api_Prefix} {r38 r39 r40 r41 : api_Prefix × exchangepointmake_Deck} {r42 r43 r44 : Int × exchangepointmake_Deck} {r45 r46 : Int} (hl2 : a2.length ≤ 1000)
    (h : ∀ ps ∈ [a1, [r38.1, r39.1, r40.1, r41.1], p33], (∀ p ∈ ps, aR p.fAddr) ∧ ps.length ≤ 1000) : Tot (loop (exchangepointlaw21_ResourceMakes_L2 a1 a2 p33 r38 r39 r40 r41 r42 r43 r44 r45 r46) (0 : Int)) (fun x => x = .inr ()) := by
  refine Tot.rng 3 (fun k (_ : Unit) => ((k : Nat) : Int)) (fun _ _ => True) _ () rfl trivial (fun k _ hk _ => ?_) (fun _ _ => ?_)
  · have hw : w64 ((k : Int) + 1) = ((k + 1 : Nat) : Int) := by rw [w64_id (by omega) (by omega)]; rfl
    unfold exchangepointlaw21_ResourceMakes_L2
    obtain ⟨h1, h2⟩ := h _ (List.getElem_mem (show k < [a1, [r38.1, r39.1, r40.1, r41.1], p33].length from hk))
    refine Tot.iteT (decide_eq_true (show (k : Int) < 3 by omega)) (Tot.bindIdx k rfl hk (Tot.chk rfl (Tot.bindT (makes_L3 h1 h2 hl2) ?_)))
    rintro _ rfl
    exact Tot.step () (by rw [hw]) trivial
  · unfold exchangepointlaw21_ResourceMakes_L2
    exact Tot.iteF rfl (Tot.last rfl)
theorem makes_any (a0 : api_Resources) (h0 : (∀ x ∈ a0.fAddrs, aR x.fFrom ∧ aR x.fTo) ∧ a0.fAddrs.length ≤ maxLen ∧ a0.fASNs.length ≤ maxLen) (a1 : List api_Prefix) (h1 : ∀ p ∈ a1, aR p.fAddr) (a2 : List api_Span) (a3 : List Int) (h3 : a3.length ≤ maxLen) (a4 a5 : Int) :
    exchangepointlaw21_ResourceMakes a0 a1 a2 a3 a4 a5 = some true := by
  refine Tot.eq ?_
  unfold exchangepointlaw21_ResourceMakes
  unfold maxLen at h0 h3
  refine Tot.bindOf (show exchangepointlaw21_light a0 = some _ from rfl) (Tot.ite (fun _ => Tot.bindOf awake_eq (Tot.some rfl)) (fun hc => ?_))
  simp only [Bool.or_eq_false_iff, Bool.not_eq_false', Bool.and_eq_true, decide_eq_true_eq, decide_eq_false_iff_not] at hc
  obtain ⟨⟨⟨c1, c2⟩, c3⟩, c4⟩ := hc
  refine Tot.bindOf (show exchangepointmake_New a3 = some ⟨a3, 0⟩ from rfl) (Tot.bindT (dres_tot _ (new_ok a3 (by omega))) fun r hr => ?_)
  obtain ⟨⟨hv, n1, n2⟩, hd⟩ := hr
  refine Tot.bindT (bent_tot hv a4 a5) fun b hb => Tot.bindT (makes_L0 (a0 := a0) (r5 := r) (r6 := b) ?_) ?_
  · intro x hx
    simp only [List.mem_cons, List.not_mem_nil, or_false] at hx
    rcases hx with rfl | rfl | rfl
    · exact ⟨h0.1, by omega, by omega⟩
    · exact ⟨hv.R, by omega, by omega⟩
    · exact ⟨hb.1, by omega, by omega⟩
  rintro _ rfl
  have m5 := Int.emod_nonneg a5 (show (3 : Int) ≠ 0 by omega)
  have m5' := Int.emod_lt_of_pos a5 (show (0 : Int) < 3 by omega)
  refine Tot.bindOf (mod_eq a5 3 (by decide) (by decide)) (Tot.bindT (makes_L1 (a5 % 3) (255 + (a5 % 3).toNat) (by omega) (by rw [w64_id (by omega) (by omega)]; omega)) fun many hm => ?_)
  refine Tot.bindT (prefix_tot _ hd) fun q1 k1 => Tot.bindT (prefix_tot _ k1.2) fun q2 k2 => Tot.bindT (prefix_tot _ k2.2) fun q3 k3 => Tot.bindT (prefix_tot _ k3.2) fun q4 k4 => ?_
  refine Tot.bindT (next_tot _ k4.2 9 (by decide) (by decide)) fun x1 y1 => Tot.bindT (next_tot _ y1.2.2 9 (by decide) (by decide)) fun x2 y2 => Tot.bindT (next_tot _ y2.2.2 5 (by decide) (by decide)) fun x3 y3 => ?_
  refine Tot.bindOf (mod_eq a5 3 (by decide) (by decide)) (Tot.bindOf (mod_eq a4 2 (by decide) (by decide)) (Tot.bindT (makes_L2 (a1 := a1) (a2 := a2) (p33 := many) (r38 := q1) (r39 := q2) (r40 := q3) (r41 := q4) (by omega) ?_) ?_))
  · intro ps hps
    simp only [List.mem_cons, List.not_mem_nil, or_false] at hps
    rcases hps with rfl | rfl | rfl
    · exact ⟨h1, by omega⟩
    · refine ⟨fun p hp => ?_, by simp⟩
      simp only [List.mem_cons, List.not_mem_nil, or_false] at hp
      rcases hp with rfl | rfl | rfl | rfl
      · exact k1.1.addr.1
      · exact k2.1.addr.1
      · exact k3.1.addr.1
      · exact k4.1.addr.1
    · exact ⟨hm.1, by omega⟩
  rintro _ rfl
  refine Tot.jnR (fun b : Bool => b = true) (fun j hj => Tot.bindT (valid_eq hv.R (by omega) (by omega)) fun b hb => Tot.iteT (hb.2 hv) (Tot.bindOf awake_eq (hj _ rfl))) (fun b hb => Tot.some hb)
abbrev U64 (x : Int) : Prop := IntKind.u64.min ≤ x ∧ x ≤ IntKind.u64.max
def hA (a : api_Addr) : Prop := True ∧ U64 a.fHi ∧ U64 a.fLo ∧ True
def hG (x : api_Range) : Prop := hA x.fFrom ∧ hA x.fTo ∧ True
def hP (x : api_Prefix) : Prop := hA x.fAddr ∧ I64 x.fLen ∧ True
def hS (x : api_Span) : Prop := I64 x.fFrom ∧ I64 x.fTo ∧ True
def hRes (x : api_Resources) : Prop := ((∀ y ∈ x.fAddrs, hG y) ∧ x.fAddrs.length ≤ maxLen) ∧ ((∀ y ∈ x.fASNs, hS y) ∧ x.fASNs.length ≤ maxLen) ∧ True
theorem hA_R {a : api_Addr} (h : hA a) : aR a := by
  obtain ⟨_, h1, h2, _⟩ := h
  have e1 : IntKind.u64.min = 0 := rfl
  have e2 : IntKind.u64.max = 18446744073709551615 := rfl
  unfold U64 at h1 h2
  rw [e1, e2] at h1 h2
  unfold aR
  omega
theorem makes_law (a0 : api_Resources) (h0 : hRes a0) (a1 : List api_Prefix) (h1 : (∀ y ∈ a1, hP y) ∧ a1.length ≤ maxLen) (a2 : List api_Span) (_ : (∀ y ∈ a2, hS y) ∧ a2.length ≤ maxLen) (a3 : List Int) (h3 : (∀ y ∈ a3, I64 y) ∧ a3.length ≤ maxLen) (a4 : Int) (_ : I64 a4) (a5 : Int) (_ : I64 a5) :
    exchangepointlaw21_ResourceMakes a0 a1 a2 a3 a4 a5 = some true :=
  makes_any a0 ⟨fun x hx => ⟨hA_R (h0.1.1 x hx).1, hA_R (h0.1.1 x hx).2.1⟩, h0.1.2, h0.2.1.2⟩ a1 (fun p hp => hA_R (h1.1 p hp).1) a2 a3 h3.2 a4 a5
end Go.Proofs.YtgcilleccigmdaaDoor
