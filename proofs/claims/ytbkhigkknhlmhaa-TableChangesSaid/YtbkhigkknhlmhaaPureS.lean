/- The law of changes in plain Lean. -/
import Derived.Test.YtbkhigkknhlmhaaPureL
namespace Go.Proofs.Ytbkhigkknhlmhaa
open Go Go.Vc

abbrev U64c (x : Int) : Prop := IntKind.u64.min ≤ x ∧ x ≤ IntKind.u64.max
abbrev cA (x : api_Addr) : Prop := (True) ∧ (U64c x.fHi) ∧ (U64c x.fLo) ∧ True
abbrev cP (x : api_Prefix) : Prop := (cA x.fAddr) ∧ (I64 x.fLen) ∧ True
abbrev cE (x : api_Entry) : Prop := (cP x.fPrefix) ∧ (I64 x.fValue) ∧ True
theorem cA.R {x : api_Addr} (h : cA x) : aR x := by
  obtain ⟨_, ⟨h1, h2⟩, ⟨h3, h4⟩, _⟩ := h
  have e1 : IntKind.u64.min = 0 := rfl
  have e2 : IntKind.u64.max = 18446744073709551615 := rfl
  rw [e1] at h1 h3
  rw [e2] at h2 h4
  exact ⟨⟨h1, by omega⟩, h3, by omega⟩
theorem cE.R {t : List api_Entry} (h : ∀ y ∈ t, cE y) : TR t := fun e he => (h e he).1.1.R
theorem put_len (t : List api_Entry) (p : api_Prefix) (v : Int) : (PutF t p v).1.length ≤ t.length + 1 := by
  unfold PutF
  have := set_len p v t
  split
  · split
    · simp
    · exact this
  · simp
theorem rem_len (t : List api_Entry) (p : api_Prefix) : (RemF t p).1.length ≤ t.length := by
  unfold RemF
  split
  · split
    · simp
    · exact List.length_filter_le _ _
  · simp
theorem changes_L1 {t : List api_Entry} (h : TR t) (hl : t.length ≤ 512) {p q : api_Prefix} (hp : aR p.fAddr) (hq : aR q.fAddr) (v : Int) : Tot (loop (exchangepointlaw03_TableChanges_L1 p v q t) (0 : Int)) (fun r => r = .inr ()) := by
  have hall : ∀ x ∈ [p, q], aR x.fAddr := fun x hx => by
    rcases List.mem_cons.1 hx with rfl | hx
    · exact hp
    · rw [List.mem_singleton.1 hx]; exact hq
  unfold exchangepointlaw03_TableChanges_L1
  have hgl : [p, q].length = 2 := rfl
  generalize [p, q] = g at hall hgl ⊢
  refine Tot.rng g.length (fun k (_ : Unit) => ((k : Nat) : Int)) (fun _ _ => True) _ () rfl trivial (fun k b hk _ => ?_) (fun b _ => ?_)
  · have hw : w64 ((k : Int) + 1) = ((k + 1 : Nat) : Int) := by rw [w64_id (by omega) (by omega)]; rfl
    have hx := hall _ (List.getElem_mem hk)
    have l1 := put_len t g[k] v
    have l2 := rem_len t g[k]
    refine Tot.iteT (by simpa using hk) (Tot.bindIdx k rfl hk (Tot.bindOf (put_eq v h hx (by omega)) (Tot.bindOf (rput_eq v h hx (by omega)) (Tot.bindOf (remove_eq h hx (by omega)) (Tot.bindOf (rremove_eq h hx (by omega)) ?_)))))
    refine Tot.jnR (fun m : Bool => m = false) (fun j hj => ?_) (fun m hm => Tot.iteF hm (Tot.step () (by rw [hw]) trivial))
    refine Tot.bindOf (same_self _ (by omega)) (Tot.iteF (by simp) (Tot.bindOf (same_self _ (by omega)) (hj _ (by simp))))
  · exact Tot.iteF (by simp) (Tot.last rfl)
theorem changes_L0 {t s : List api_Entry} (h : TR t) (hl : t.length ≤ 512) (h' : TR s) (hl' : s.length ≤ 512) {p q : api_Prefix} (hp : aR p.fAddr) (hq : aR q.fAddr) (v : Int) : Tot (loop (exchangepointlaw03_TableChanges_L0 t p v s q) (0 : Int)) (fun r => r = .inr ()) := by
  have hall : ∀ x ∈ [t, s], TR x ∧ x.length ≤ 512 := fun x hx => by
    rcases List.mem_cons.1 hx with rfl | hx
    · exact ⟨h, hl⟩
    · rw [List.mem_singleton.1 hx]; exact ⟨h', hl'⟩
  unfold exchangepointlaw03_TableChanges_L0
  have hgl : [t, s].length = 2 := rfl
  generalize [t, s] = g at hall hgl ⊢
  refine Tot.rng g.length (fun k (_ : Unit) => ((k : Nat) : Int)) (fun _ _ => True) _ () rfl trivial (fun k b hk _ => ?_) (fun b _ => ?_)
  · have hw : w64 ((k : Int) + 1) = ((k + 1 : Nat) : Int) := by rw [w64_id (by omega) (by omega)]; rfl
    have hx := hall _ (List.getElem_mem hk)
    refine Tot.iteT (by simpa using hk) (Tot.bindIdx k rfl hk (Tot.bindT (changes_L1 hx.1 hx.2 hp hq v) fun r hr => ?_))
    subst hr
    exact Tot.step () (by rw [hw]) trivial
  · exact Tot.iteF (by simp) (Tot.last rfl)
theorem u64_range (x : Int) : 0 ≤ IntKind.u64.wrap x ∧ IntKind.u64.wrap x < 18446744073709551616 := by
  show 0 ≤ x % 18446744073709551616 ∧ x % 18446744073709551616 < 18446744073709551616
  omega
theorem full_tot : Tot (loop exchangepointlaw03_TableChanges_L2 ((0 : Int), ([] : List api_Entry))) (fun r => TR r ∧ r.length ≤ 512) := by
  refine Tot.rng 512 (fun k (b : List api_Entry) => (((k : Nat) : Int), b)) (fun k b => TR b ∧ b.length = k) _ [] rfl ⟨fun x hx => (by cases hx), rfl⟩ (fun k b hk hb => ?_) (fun b hb => ?_)
  · obtain ⟨hb1, hb2⟩ := hb
    have hw : w64 ((k : Int) + 1) = ((k + 1 : Nat) : Int) := by rw [w64_id (by omega) (by omega)]; rfl
    unfold exchangepointlaw03_TableChanges_L2
    refine Tot.iteT (decide_eq_true (by simp only; omega)) (Tot.chk (limB (by simp; omega)) (Tot.step (b ++ [_]) (by rw [hw]) ⟨fun x hm => ?_, by simp; omega⟩))
    rcases List.mem_append.1 hm with hm | hm
    · exact hb1 x hm
    · rw [List.mem_singleton.1 hm]
      exact ⟨⟨Int.le_refl 0, show (0 : Int) < 18446744073709551616 by decide⟩, u64_range _⟩
  · obtain ⟨hb1, hb2⟩ := hb
    unfold exchangepointlaw03_TableChanges_L2
    exact Tot.iteF (by simp) (Tot.last ⟨hb1, by simp only; omega⟩)
/-- the law -/
theorem changes_law (a0 : List api_Entry) (h0 : (∀ y ∈ a0, cE y) ∧ a0.length ≤ maxLen) (a1 : api_Prefix) (h1 : cP a1) (a2 : List Int) (h2 : (∀ y ∈ a2, I64 y) ∧ a2.length ≤ maxLen) (a3 : Int) {p3 : Prop} (_ : p3) (a4 : Bool) {p4 : Prop} (_ : p4) : exchangepointlaw03_TableChanges a0 a1 a2 a3 a4 = some true := by
  refine Tot.eq ?_
  unfold exchangepointlaw03_TableChanges
  refine Tot.bindOf (show exchangepointlaw03_few a0 = some (decide ((a0.length : Int) ≤ 40)) from rfl) (Tot.ite (fun _ => Tot.bindOf awake_eq (Tot.some rfl)) fun hc => ?_)
  have hc : a0.length ≤ 40 := by
    have : decide ((a0.length : Int) ≤ 40) = true := by simpa using hc
    have := of_decide_eq_true this
    omega
  have hR := cE.R h0.1
  refine Tot.bindOf (show exchangepointmake_New a2 = some ⟨a2, 0⟩ from rfl) (Tot.bindT (table_tot _ (new_ok a2 (by have := h2.2; unfold maxLen at this; omega))) ?_)
  rintro ⟨t, d⟩ ⟨⟨ht, hl⟩, hd⟩
  simp only at ht hl hd ⊢
  refine Tot.jnR (fun m : List api_Entry => TR m ∧ m.length ≤ 512) (fun j hj => Tot.ite (fun hc => Tot.bindT full_tot fun r hr => hj _ hr) (fun hc => hj _ ⟨ht.R, by omega⟩)) (fun m hm => ?_)
  obtain ⟨m1, m2⟩ := hm
  refine Tot.bindT (prefix_tot _ hd) ?_
  rintro ⟨p, d1⟩ ⟨hp, hd1⟩
  simp only at hp hd1 ⊢
  refine Tot.jnR (fun x : Bool × exchangepointmake_Deck => DeckOk x.2 ∧ (x.1 = true → 0 < m.length)) (fun j hj => Tot.ite (fun hc => ?_) (fun hc => hj _ ⟨hd1, fun e => by cases e⟩)) (fun x hx => ?_)
  · have hc : 0 < m.length := by simpa using hc
    refine Tot.bindT (next_tot _ hd1 2 (by omega) (by omega)) ?_
    rintro ⟨n, d3⟩ ⟨n0, n1, hd3⟩
    exact hj _ ⟨hd3, fun _ => hc⟩
  refine Tot.jnR (fun p : api_Prefix => aR p.fAddr) (fun j hj => Tot.ite (fun hc => ?_) (fun hc => hj _ hp.addr.1)) (fun p hp => ?_)
  · have hc := hx.2 hc
    refine Tot.bindT (next_tot _ hx.1 m.length (by omega) (by omega)) ?_
    rintro ⟨n, d3⟩ ⟨n0, n1, hd3⟩
    simp only at n0 n1 ⊢
    exact Tot.bindIdx n.toNat (by omega) (by omega) (hj _ (m1 _ (List.getElem_mem _)))
  refine Tot.bindT (changes_L0 hR (by omega) m1 m2 h1.1.R hp a3) fun x hx => ?_
  subst hx
  exact Tot.bindOf awake_eq (Tot.some rfl)
end Go.Proofs.Ytbkhigkknhlmhaa
