/- The law of finding in plain Lean. -/
import Derived.Test.YtbkhigkknhlmhaaPureL
namespace Go.Proofs.Ytbkhigkknhlmhaa
open Go Go.Vc

abbrev U64 (x : Int) : Prop := IntKind.u64.min ≤ x ∧ x ≤ IntKind.u64.max
abbrev hA (x : api_Addr) : Prop := (True) ∧ (U64 x.fHi) ∧ (U64 x.fLo) ∧ True
abbrev hP (x : api_Prefix) : Prop := (hA x.fAddr) ∧ (I64 x.fLen) ∧ True
abbrev hE (x : api_Entry) : Prop := (hP x.fPrefix) ∧ (I64 x.fValue) ∧ True
theorem hA.R {x : api_Addr} (h : hA x) : aR x := by
  obtain ⟨_, ⟨h1, h2⟩, ⟨h3, h4⟩, _⟩ := h
  have e1 : IntKind.u64.min = 0 := rfl
  have e2 : IntKind.u64.max = 18446744073709551615 := rfl
  rw [e1] at h1 h3
  rw [e2] at h2 h4
  exact ⟨⟨h1, by omega⟩, h3, by omega⟩
theorem hE.R {t : List api_Entry} (h : ∀ y ∈ t, hE y) : TR t := fun e he => (h e he).1.1.R
theorem valid_twice {t : List api_Entry} (h : TV t) (hl : t.length ≤ 23) : ValidT (t ++ t) = ((t.length : Int) == 0) := by
  cases t with
  | nil =>
    show ValidT [] = true
    exact validT_iff.2 ⟨tv_nil, by decide⟩
  | cons x t =>
    have : ValidT (x :: t ++ x :: t) = false := by
      cases e : ValidT (x :: t ++ x :: t) with
      | false => rfl
      | true =>
        have hp := (validT_iff.1 e).1.2
        rw [List.pairwise_append] at hp
        exact (pLt_irr _ (hp.2.2 x List.mem_cons_self x List.mem_cons_self)).elim
    rw [this]
    symm
    simp only [List.length_cons, beq_eq_false_iff_ne, ne_eq]
    omega
theorem finds_loop {t : List api_Entry} {d d1 : exchangepointmake_Deck} (h : TV t) (hl : t.length ≤ 23) {a : api_Addr} (ha : aV a) {p : api_Prefix} (hp : pV p) : Tot (loop (exchangepointlaw03_TableFinds_L0 (t, d) (a, d1) p (LastF p)) (0 : Int)) (fun r => r = .inr ()) := by
  have hall : ∀ x ∈ [a, p.fAddr, LastF p], aV x := fun x hx => by
    rcases List.mem_cons.1 hx with rfl | hx
    · exact ha
    · rcases List.mem_cons.1 hx with rfl | hx
      · exact hp.addr
      · rw [List.mem_singleton.1 hx]; exact lastF_V hp
  unfold exchangepointlaw03_TableFinds_L0
  simp only
  generalize hg : [a, p.fAddr, LastF p] = g at hall ⊢
  have hgl : g.length = 3 := by rw [← hg]; rfl
  refine Tot.rng g.length (fun k (_ : Unit) => ((k : Nat) : Int)) (fun _ _ => True) _ () rfl trivial (fun k b hk _ => ?_) (fun b _ => ?_)
  · have hw : w64 ((k : Int) + 1) = ((k + 1 : Nat) : Int) := by rw [w64_id (by omega) (by omega)]; rfl
    have hx := hall _ (List.getElem_mem hk)
    refine Tot.iteT (by simpa using hk) (Tot.bindIdx k rfl hk (Tot.bindOf (look_eq h hx.1 (by omega)) (Tot.bindOf (rlook_eq hx (by omega)) (Tot.iteF ?_ (Tot.step () (by rw [hw]) trivial)))))
    show ((!(eeq ((LookF t g[k]).getD zE) ((LookF t g[k]).getD zE))) || ((LookF t g[k]).isSome != (LookF t g[k]).isSome)) = false
    rw [eeq_iff.2 rfl]
    simp
  · exact Tot.iteF (by simp) (Tot.last rfl)
/-- the law -/
theorem finds_law (a0 : List api_Entry) (h0 : (∀ y ∈ a0, hE y) ∧ a0.length ≤ maxLen) (a1 : List Int) (h1 : (∀ y ∈ a1, I64 y) ∧ a1.length ≤ maxLen) : exchangepointlaw03_TableFinds a0 a1 = some true := by
  refine Tot.eq ?_
  unfold exchangepointlaw03_TableFinds
  refine Tot.bindOf (show exchangepointlaw03_few a0 = some (decide ((a0.length : Int) ≤ 40)) from rfl) (Tot.ite (fun _ => Tot.bindOf awake_eq (Tot.some rfl)) fun hc => ?_)
  have hc : a0.length ≤ 40 := by
    have : decide ((a0.length : Int) ≤ 40) = true := by simpa using hc
    have := of_decide_eq_true this
    omega
  have hR := hE.R h0.1
  refine Tot.bindOf (show exchangepointmake_New a1 = some ⟨a1, 0⟩ from rfl) (Tot.bindT (table_tot _ (new_ok a1 (by have := h1.2; unfold maxLen at this; omega))) ?_)
  rintro ⟨t, d⟩ ⟨⟨ht, hl⟩, hd⟩
  simp only at ht hl hd ⊢
  refine Tot.bindT (prefix_tot _ hd) ?_
  rintro ⟨p, d1⟩ ⟨hp, hd1⟩
  simp only at hp hd1 ⊢
  refine Tot.bindT (addr_tot _ hd1) ?_
  rintro ⟨a, d2⟩ ⟨ha, hd2⟩
  simp only at ha hd2 ⊢
  refine Tot.jnR (fun m : Bool × exchangepointmake_Deck => DeckOk m.2 ∧ (m.1 = true → 0 < t.length)) (fun j hj => Tot.ite (fun hc => ?_) (fun hc => hj _ ⟨hd2, fun e => by cases e⟩)) (fun m hm => ?_)
  · have hc : 0 < t.length := by simpa using hc
    refine Tot.bindT (next_tot _ hd2 2 (by omega) (by omega)) ?_
    rintro ⟨n, d3⟩ ⟨n0, n1, hd3⟩
    exact hj _ ⟨hd3, fun _ => hc⟩
  refine Tot.jnR (fun p : api_Prefix => pV p) (fun j hj => Tot.ite (fun hc => ?_) (fun hc => hj _ hp)) (fun p hp => ?_)
  · have hc := hm.2 hc
    refine Tot.bindT (next_tot _ hm.1 t.length (by omega) (by omega)) ?_
    rintro ⟨n, d3⟩ ⟨n0, n1, hd3⟩
    simp only at n0 n1 ⊢
    exact Tot.bindIdx n.toNat (by omega) (by omega) (hj _ (ht.1 _ (List.getElem_mem _)))
  refine Tot.jnR (fun m : Bool => m = false) (fun j hj => ?_) (fun m hm => Tot.iteF hm ?_)
  · refine Tot.bindOf (tvalid_eq hR (by omega)) (Tot.bindOf (rtvalid_eq hR (by omega)) (Tot.iteF (by simp) (Tot.bindOf (tvalid_eq ht.R (by omega)) ?_)))
    rw [validT_iff.2 ⟨ht, by omega⟩]
    refine Tot.iteF (by decide) (Tot.chk (limB (by omega)) (Tot.chk (limB (by simp; omega)) (Tot.bindOf (tvalid_eq (fun e he => ?_) (by simp; omega)) (hj _ ?_))))
    · rcases List.mem_append.1 he with he | he <;> exact ht.R e he
    · rw [valid_twice ht hl]; simp
  refine Tot.bindOf (get_eq ht hp.addr.1 (by omega)) (Tot.bindOf (rget_eq _ _ (by omega)) ?_)
  have hf1 : ∀ f : api_Entry → Bool, (t.filter f).length ≤ 4611686018427387904 := fun f => Nat.le_trans (List.length_filter_le _ _) (by omega)
  refine Tot.jnR (fun m : Bool => m = false) (fun j hj => ?_) (fun m hm => Tot.iteF hm ?_)
  · refine Tot.iteF (by simp) (Tot.bindOf (covering_eq hp.addr.1 (by omega)) (Tot.bindOf (rcovering_eq hp.addr (by omega)) (Tot.bindOf (same_self _ (hf1 _)) (Tot.iteF (by decide) (Tot.bindOf (covered_eq _ ht.R (by omega)) (Tot.bindOf (rcovered_eq _ ht (by omega)) (Tot.bindOf (same_self _ (hf1 _)) (hj _ rfl))))))))
  refine Tot.bindOf (rlast_eq hp) (Tot.bindT (finds_loop ht hl ha hp) fun x hx => ?_)
  subst hx
  exact Tot.bindOf awake_eq (Tot.some rfl)
end Go.Proofs.Ytbkhigkknhlmhaa
