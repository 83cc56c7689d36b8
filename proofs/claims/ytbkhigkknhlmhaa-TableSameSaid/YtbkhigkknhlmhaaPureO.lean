/- The law of the same answers in plain Lean. -/
import Derived.Test.YtbkhigkknhlmhaaPureN
namespace Go.Proofs.Ytbkhigkknhlmhaa
open Go Go.Vc

theorem same_list {t : List api_Entry} {d d' : exchangepointmake_Deck} (h : TV t) (hl : t.length ≤ 23) {a b : api_Addr} (ha : aV a) (hb : aV b) : Tot (loop (exchangepointlaw03_TableSame_L0 (t, d)) ((0 : Int), ([a, b] : List api_Addr))) (fun l => (∀ x ∈ l, aV x) ∧ l.length ≤ 48) := by
  refine Tot.rng t.length (fun k (b : List api_Addr) => (((k : Nat) : Int), b)) (fun k b => (∀ x ∈ b, aV x) ∧ b.length = 2 * k + 2) _ [a, b] rfl ⟨fun x hx => ?_, rfl⟩ (fun k b hk hb => ?_) (fun b hb => ?_)
  · rcases List.mem_cons.1 hx with rfl | hx
    · exact ha
    · rw [List.mem_singleton.1 hx]; exact hb
  · obtain ⟨hb1, hb2⟩ := hb
    have hw : w64 ((k : Int) + 1) = ((k + 1 : Nat) : Int) := by rw [w64_id (by omega) (by omega)]; rfl
    have hx := h.1 _ (List.getElem_mem hk)
    unfold exchangepointlaw03_TableSame_L0
    refine Tot.iteT (by simpa using hk) (Tot.bindIdx k rfl hk (Tot.bindOf (rlast_eq hx) (Tot.chk (limB (by simp; omega)) (Tot.step (b ++ [t[k].fPrefix.fAddr, LastF t[k].fPrefix]) (by rw [hw]) ⟨fun x hm => ?_, by simp; omega⟩))))
    rcases List.mem_append.1 hm with hm | hm
    · exact hb1 x hm
    · rcases List.mem_cons.1 hm with rfl | hm
      · exact hx.addr
      · rw [List.mem_singleton.1 hm]; exact lastF_V hx
  · obtain ⟨hb1, hb2⟩ := hb
    unfold exchangepointlaw03_TableSame_L0
    exact Tot.iteF (by simp) (Tot.last ⟨hb1, by simp only; omega⟩)
theorem val_eq {t s : List api_Entry} {a : api_Addr} (h : valL t a = valL s a) : (LookF t a).isSome = (LookF s a).isSome ∧ ((LookF t a).getD zE).fValue = ((LookF s a).getD zE).fValue := by
  unfold valL at h
  cases e1 : LookF t a <;> cases e2 : LookF s a <;> rw [e1, e2] at h
  · exact ⟨rfl, rfl⟩
  · cases h
  · cases h
  · exact ⟨rfl, Option.some.inj h⟩
/-- the law -/
theorem same_law (a0 : List Int) (h0 : (∀ y ∈ a0, I64 y) ∧ a0.length ≤ maxLen) : exchangepointlaw03_TableSame a0 = some true := by
  refine Tot.eq ?_
  unfold exchangepointlaw03_TableSame
  refine Tot.bindOf (show exchangepointmake_New a0 = some ⟨a0, 0⟩ from rfl) (Tot.bindT (table_tot _ (new_ok a0 (by have := h0.2; unfold maxLen at this; omega))) ?_)
  rintro ⟨t, d⟩ ⟨⟨ht, hl⟩, hd⟩
  simp only at ht hl hd ⊢
  obtain ⟨r, r1, r2, r3, r4, r5⟩ := agg_tot ht (by omega)
  have hal := agg_len r
  have hav := agg_V r1
  refine Tot.bindOf r4 (Tot.bindOf (tvalid_eq hav.R (by omega)) (Tot.iteF ?_ ?_))
  · rw [validT_iff.2 ⟨hav, by omega⟩]
    simp; omega
  refine Tot.bindT (addr_tot _ hd) ?_
  rintro ⟨a, d1⟩ ⟨ha, hd1⟩
  refine Tot.bindT (addr_tot _ hd1) ?_
  rintro ⟨b, d2⟩ ⟨hb, hd2⟩
  simp only at ha hb ⊢
  refine Tot.bindT (same_list (d' := d) ht hl ha hb) fun l hll => ?_
  obtain ⟨l1, l2⟩ := hll
  refine Tot.bindRng l.length (fun k (_ : Unit) => ((k : Nat) : Int)) (fun _ _ => True) (fun x => x = .inr ()) () rfl trivial (fun k b hk _ => ?_) (fun b _ => ?_) (fun x hx => by subst hx; exact Tot.bindOf awake_eq (Tot.some rfl))
  · have hw : w64 ((k : Int) + 1) = ((k + 1 : Nat) : Int) := by rw [w64_id (by omega) (by omega)]; rfl
    unfold exchangepointlaw03_TableSame_L1
    have hx := l1 _ (List.getElem_mem hk)
    obtain ⟨v1, v2⟩ := val_eq ((val_choice r1 l[k]).trans (val_levels ht r1 r3 l[k]))
    refine Tot.iteT (by simpa using hk) (Tot.bindIdx k rfl hk (Tot.bindIdx k rfl hk (Tot.bindOf (look_eq ht hx.1 (by omega)) (Tot.bindOf (look_eq hav hx.1 (by omega)) (Tot.iteF ?_ (Tot.step () (by rw [hw]) trivial))))))
    simp only
    rw [v1, v2]
    simp
  · unfold exchangepointlaw03_TableSame_L1
    exact Tot.iteF (by simp) (Tot.last rfl)
end Go.Proofs.Ytbkhigkknhlmhaa
