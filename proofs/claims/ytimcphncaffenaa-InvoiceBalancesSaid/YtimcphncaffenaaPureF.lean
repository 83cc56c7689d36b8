/- Chapter 41 in plain Lean: the sum of an invoice's versions. -/
import Derived.Test.YtimcphncaffenaaPureE
namespace Go.Proofs.Ytimcphncaffenaa
open Go Go.Vc

def addAll (a ls : List api_Line) (sg : Int) : List api_Line := ls.foldl (fun a x => AddF x sg a) a
theorem addAll_snoc (a ls : List api_Line) (x : api_Line) (sg : Int) : addAll a (ls ++ [x]) sg = AddF x sg (addAll a ls sg) := by unfold addAll; rw [List.foldl_append]; rfl
structure Good (a : List api_Line) (n : Nat) : Prop where
  up : portsUp a
  ok : ∀ x ∈ a, idOk x.fPort
  len : a.length ≤ n
theorem Good.isIn {a : List api_Line} {n : Nat} (g : Good a n) : portsIn a := fun x hx => by have := g.ok x hx; unfold idOk at this; omega
theorem Good.add {a : List api_Line} {n : Nat} (g : Good a n) {x : api_Line} (hx : idOk x.fPort) (sg : Int) : Good (AddF x sg a) (n + 1) :=
  ⟨addF_up g.up, fun z hz => by
    rcases addF_mem.1 (List.mem_map_of_mem (f := fun z : api_Line => z.fPort) hz) with e | hm
    · rw [e]; exact hx
    · obtain ⟨w, hw, e⟩ := List.mem_map.1 hm
      have := g.ok w hw
      rw [← e]; exact this, by have := addF_len (x := x) (sg := sg) (l := a); have := g.len; omega⟩
theorem Good.addAll {a : List api_Line} {n : Nat} (g : Good a n) (sg : Int) : ∀ {ls : List api_Line}, (∀ x ∈ ls, idOk x.fPort) → Good (addAll a ls sg) (n + ls.length) := by
  intro ls
  induction ls generalizing a n with
  | nil => intro _; exact g
  | cons x r ih =>
    intro h
    have := ih (g.add (h x (List.mem_cons_self ..)) sg) (fun y hy => h y (List.mem_cons_of_mem _ hy))
    simp only [List.length_cons]
    rw [show n + (r.length + 1) = n + 1 + r.length from by omega]
    exact this
theorem Good.mono {a : List api_Line} {n m : Nat} (g : Good a n) (h : n ≤ m) : Good a m := ⟨g.up, g.ok, Nat.le_trans g.len h⟩
theorem addAll_tot (sg : Int) : ∀ {ls a : List api_Line}, totF (addAll a ls sg) = w64 (totF a + sg * sumA ls)
  | [], a => by
    unfold addAll sumA
    simp only [List.foldl_nil, List.map_nil, List.sum_nil, Int.mul_zero, Int.add_zero]
    rw [totF_sum, w64_w64]
  | x :: r, a => by
    have := addAll_tot sg (ls := r) (a := AddF x sg a)
    show totF (addAll (AddF x sg a) r sg) = _
    rw [this, addF_tot, w64_add_l]
    unfold sumA
    rw [List.map_cons, List.sum_cons, Int.mul_add, Int.add_assoc]

noncomputable def progTb (ls : List api_Line) (sg : Int) (s : Int × List api_Line) : Option (List api_Line ⊕ (Int × List api_Line)) :=
  if (decide (s.1 < (ls.length : Int))) = true then (idx ls s.1).bind fun x => (invoice_sums_add_2 s.2 x sg).bind fun r => some (.inr ((w64 (s.1 + (1 : Int))), r.flines)) else some (.inl s.2)
noncomputable def refTb (ls : List api_Line) (sg : Int) (s : Int × List api_Line) : Option (List api_Line ⊕ (Int × List api_Line)) :=
  if (decide (s.1 < (ls.length : Int))) = true then (idx ls s.1).bind fun x => (exchangepointref41_add s.2 x sg).bind fun r => some (.inr ((w64 (s.1 + (1 : Int))), r)) else some (.inl s.2)
noncomputable def refTb' (ls : List api_Line) (sg : Int) (s : List api_Line × Int) : Option (List api_Line ⊕ (List api_Line × Int)) :=
  if (decide (s.2 < (ls.length : Int))) = true then (idx ls s.2).bind fun x => (exchangepointref41_add s.1 x sg).bind fun r => some (.inr (r, (w64 (s.2 + (1 : Int))))) else some (.inl s.1)
theorem gd_step {a : List api_Line} {n : Nat} (g : Good a n) {ls : List api_Line} (h : ∀ x ∈ ls, idOk x.fPort) (hn : n + ls.length ≤ 90000) (sg : Int) {k : Nat} (hk : k < ls.length) :
    invoice_sums_add_2 (addAll a (ls.take k) sg) ls[k] sg = some ⟨addAll a (ls.take (k + 1)) sg⟩ ∧ exchangepointref41_add (addAll a (ls.take k) sg) ls[k] sg = some (addAll a (ls.take (k + 1)) sg) := by
  have g' := g.addAll sg (ls := ls.take k) (fun x hx => h x (List.mem_of_mem_take hx))
  have hx := h _ (List.getElem_mem hk)
  have hl := g'.len
  rw [List.length_take] at hl
  unfold idOk at hx
  rw [take_snoc hk, addAll_snoc]
  exact add_prog sg (by omega) g'.up g'.isIn (by omega)
theorem prog_loop {a : List api_Line} {n : Nat} (g : Good a n) {ls : List api_Line} (h : ∀ x ∈ ls, idOk x.fPort) (hn : n + ls.length ≤ 90000) (sg : Int) : loop (progTb ls sg) ((0 : Int), a) = some (addAll a ls sg) := by
  refine Tot.eq (Tot.rng ls.length (fun k (b : List api_Line) => ((k : Int), b)) (fun k b => b = addAll a (ls.take k) sg) _ a rfl rfl ?_ ?_)
  · rintro k _ hk rfl
    unfold progTb
    exact Tot.iteT (decide_eq_true (by simp only; omega)) (Tot.bindIdx k rfl hk (Tot.bindOf (gd_step g h hn sg hk).1 (Tot.step _ (Prod.ext (cast_succ_w hk (by omega)) rfl) rfl)))
  · rintro _ rfl
    unfold progTb
    exact Tot.iteF (decide_eq_false (by simp only; omega)) (Tot.last (by rw [List.take_length]))
theorem ref_loop {a : List api_Line} {n : Nat} (g : Good a n) {ls : List api_Line} (h : ∀ x ∈ ls, idOk x.fPort) (hn : n + ls.length ≤ 90000) (sg : Int) : loop (refTb ls sg) ((0 : Int), a) = some (addAll a ls sg) := by
  refine Tot.eq (Tot.rng ls.length (fun k (b : List api_Line) => ((k : Int), b)) (fun k b => b = addAll a (ls.take k) sg) _ a rfl rfl ?_ ?_)
  · rintro k _ hk rfl
    unfold refTb
    exact Tot.iteT (decide_eq_true (by simp only; omega)) (Tot.bindIdx k rfl hk (Tot.bindOf (gd_step g h hn sg hk).2 (Tot.step _ (Prod.ext (cast_succ_w hk (by omega)) rfl) rfl)))
  · rintro _ rfl
    unfold refTb
    exact Tot.iteF (decide_eq_false (by simp only; omega)) (Tot.last (by rw [List.take_length]))
theorem ref_loop' {a : List api_Line} {n : Nat} (g : Good a n) {ls : List api_Line} (h : ∀ x ∈ ls, idOk x.fPort) (hn : n + ls.length ≤ 90000) (sg : Int) : loop (refTb' ls sg) (a, (0 : Int)) = some (addAll a ls sg) := by
  refine Tot.eq (Tot.rng ls.length (fun k (b : List api_Line) => (b, (k : Int))) (fun k b => b = addAll a (ls.take k) sg) _ a rfl rfl ?_ ?_)
  · rintro k _ hk rfl
    unfold refTb'
    exact Tot.iteT (decide_eq_true (by simp only; omega)) (Tot.bindIdx k rfl hk (Tot.bindOf (gd_step g h hn sg hk).2 (Tot.step _ (Prod.ext rfl (cast_succ_w hk (by omega))) rfl)))
  · rintro _ rfl
    unfold refTb'
    exact Tot.iteF (decide_eq_false (by simp only; omega)) (Tot.last (by rw [List.take_length]))

def SumL (l : List api_Invoice) : List api_Line := l.foldl (fun a v => addAll a v.fLines 1) []
theorem sumL_snoc (l : List api_Invoice) (v : api_Invoice) : SumL (l ++ [v]) = addAll (SumL l) v.fLines 1 := by unfold SumL; rw [List.foldl_append]; rfl
theorem ConsP.ids {v : api_Invoice} (c : ConsP v) : ∀ x ∈ v.fLines, idOk x.fPort := fun x hx => (c.rows x hx).1
theorem sumL_good : ∀ {l : List api_Invoice}, (∀ v ∈ l, ConsP v) → ∀ k, Good (SumL (l.take k)) (8 * k)
  | l, h, 0 => ⟨by rw [List.take_zero]; unfold SumL portsUp; simp, by rw [List.take_zero]; unfold SumL; simp, by rw [List.take_zero]; unfold SumL; simp⟩
  | l, h, k + 1 => by
    have ih := sumL_good h k
    by_cases hk : k < l.length
    · rw [take_snoc hk, sumL_snoc]
      have c := h _ (List.getElem_mem hk)
      exact (ih.addAll 1 c.ids).mono (by have := c.few; omega)
    · rw [List.take_of_length_le (by omega)]
      rw [List.take_of_length_le (by omega)] at ih
      exact ih.mono (by omega)
def hd (l : List api_Invoice) : api_Invoice := l[0]?.getD zi
theorem hd_eq {l : List api_Invoice} (h : 0 < l.length) : l[0] = hd l := by unfold hd; rw [List.getElem?_eq_getElem h]; rfl
def OrdAt (l : List api_Invoice) (i : Nat) (v : api_Invoice) : Prop := v.fVersion = (i : Int) + 1 ∧ v.fMember = (hd l).fMember ∧ v.fMonth = (hd l).fMonth
def OrdP (l : List api_Invoice) : Prop := ∀ i (h : i < l.length), OrdAt l i l[i]
def SumV (l : List api_Invoice) : api_Invoice := ⟨(hd l).fMember, (hd l).fMonth, (l.length : Int), SumL l, totF (SumL l)⟩
open Classical in
noncomputable def SumF (l : List api_Invoice) : api_Invoice × Int :=
  if l.length = 0 ∨ 1000 < l.length then (zi, 1) else if ¬ ∀ v ∈ l, ConsP v then (zi, 1) else if ¬ OrdP l then (zi, 35) else if ConsP (SumV l) then (SumV l, 0) else (zi, 3)

/-- all are consistent, or one is not -/
def AllQ (l : List api_Invoice) : Unit ⊕ Unit → Prop
  | .inl _ => ¬ ∀ v ∈ l, ConsP v
  | .inr _ => ∀ v ∈ l, ConsP v
def OrdQ (l : List api_Invoice) : Unit ⊕ List api_Line → Prop
  | .inl _ => ¬ OrdP l
  | .inr a => OrdP l ∧ a = SumL l
theorem mem_take_succ {l : List api_Invoice} {k : Nat} (hk : k < l.length) {P : api_Invoice → Prop} (h : ∀ v ∈ l.take k, P v) (h' : P l[k]) : ∀ v ∈ l.take (k + 1), P v := fun v hv => by
  rw [take_snoc hk] at hv
  rcases List.mem_append.1 hv with hv | hv
  · exact h v hv
  · rw [List.mem_singleton.1 hv]; exact h'

theorem sum_all (l : List api_Invoice) (hl : l.length ≤ 1000) : Tot (loop (invoice_Sum_L0 l) (0 : Int)) (AllQ l) := by
  refine Tot.rng l.length (fun k (_ : Unit) => (k : Int)) (fun k _ => ∀ v ∈ l.take k, ConsP v) _ () rfl (by simp) ?_ ?_
  · rintro k _ hk hj
    unfold invoice_Sum_L0
    refine Tot.iteT (decide_eq_true (by omega)) (Tot.bindIdx k rfl hk ?_)
    try refine Tot.bindIdx k rfl hk ?_
    refine Tot.bindT (cons_eq _) fun b hb => ?_
    cases b with
    | false => exact Tot.iteT rfl (Tot.stop fun h => by have := hb.2 (h _ (List.getElem_mem hk)); cases this)
    | true => exact Tot.iteF rfl (Tot.step () (cast_succ_w hk (by omega)) (mem_take_succ hk hj (hb.1 rfl)))
  · rintro _ hj
    rw [List.take_length] at hj
    unfold invoice_Sum_L0
    exact Tot.iteF (decide_eq_false (by omega)) (Tot.last hj)
theorem sum_ord (l : List api_Invoice) (hl : l.length ≤ 1000) (hc : ∀ v ∈ l, ConsP v) : Tot (loop (invoice_Sum_L1 l) ((0 : Int), ([] : List api_Line))) (OrdQ l) := by
  refine Tot.rng l.length (fun k (b : List api_Line) => ((k : Int), b)) (fun k b => b = SumL (l.take k) ∧ ∀ i (h : i < l.length), i < k → OrdAt l i l[i]) _ [] rfl ⟨rfl, fun i _ h => by omega⟩ ?_ ?_
  · rintro k _ hk ⟨rfl, hj⟩
    unfold invoice_Sum_L1
    simp only
    have h0 : 0 < l.length := by omega
    refine Tot.iteT (decide_eq_true (by omega)) (Tot.bindIdx k rfl hk ?_)
    try refine Tot.bindIdx k rfl hk ?_
    have hw : w64 ((k : Int) + 1) = (k : Int) + 1 := w64_id (by omega) (by omega)
    refine Tot.jnR (fun b : Bool => b = true ↔ ¬ OrdAt l k l[k]) (fun j hjj => ?_) ?_
    · rw [hw]
      refine Tot.ite (fun h => hjj _ ?_) (fun h => ?_)
      · simp only [true_iff]
        intro ho
        rw [ho.1] at h
        simp at h
      · refine Tot.bindIdx 0 rfl h0 ?_
        try refine Tot.bindIdx 0 rfl h0 ?_
        rw [hd_eq h0]
        refine Tot.ite (fun h' => hjj _ ?_) (fun h' => ?_)
        · simp only [true_iff]
          intro ho
          rw [ho.2.1] at h'
          simp at h'
        · refine Tot.bindIdx 0 rfl h0 ?_
          try refine Tot.bindIdx 0 rfl h0 ?_
          rw [hd_eq h0]
          refine hjj _ ?_
          rw [bne_iff_ne]
          constructor
          · intro h1 ho; exact h1 ho.2.2
          · intro h1 h2
            exact h1 ⟨by simpa using h, by simpa using h', h2⟩
    · intro b hb
      cases b with
      | true => exact Tot.iteT rfl (Tot.stop fun ho => hb.1 rfl (ho k hk))
      | false =>
        have ho : OrdAt l k l[k] := Classical.not_not.1 (mt hb.2 (by simp))
        refine Tot.iteF rfl (Tot.bindOf (prog_loop (sumL_good hc k) (hc _ (List.getElem_mem hk)).ids (by have := (hc _ (List.getElem_mem hk)).few; omega) 1) (Tot.step _ (Prod.ext (cast_succ_w hk (by omega)) rfl) ⟨by rw [take_snoc hk, sumL_snoc], fun i hi hik => ?_⟩))
        by_cases he : i = k
        · subst he; exact ho
        · exact hj i hi (by omega)
  · rintro _ ⟨rfl, hj⟩
    unfold invoice_Sum_L1
    exact Tot.iteF (decide_eq_false (by simp only; omega)) (Tot.last ⟨fun i hi => hj i hi hi, by simp only [List.take_length]⟩)
theorem sum_eq (l : List api_Invoice) : invoice_Sum l = some (SumF l) := by
  refine Tot.eq ?_
  unfold invoice_Sum SumF
  refine Tot.ite (fun h => ?_) (fun h => ?_)
  · rw [if_pos]
    · exact Tot.some rfl
    · simp only [Bool.or_eq_true, beq_iff_eq, decide_eq_true_eq] at h; omega
  · have hl : ¬ (l.length = 0 ∨ 1000 < l.length) := by
      simp only [Bool.or_eq_false_iff, beq_eq_false_iff_ne, decide_eq_false_iff_not] at h; omega
    rw [if_neg hl]
    refine Tot.bindT (sum_all l (by omega)) ?_
    rintro (u | u) hx
    · rw [if_pos (show ¬ ∀ v ∈ l, ConsP v from hx)]; exact Tot.some rfl
    · have hc : ∀ v ∈ l, ConsP v := hx
      rw [if_neg (Classical.not_not.2 hc)]
      refine Tot.bindT (sum_ord l (by omega) hc) ?_
      rintro (u | a) hx
      · rw [if_pos (show ¬ OrdP l from hx)]; exact Tot.some rfl
      · obtain ⟨ho, rfl⟩ := hx
        rw [if_neg (Classical.not_not.2 ho)]
        have h0 : 0 < l.length := by omega
        have g := sumL_good hc l.length
        rw [List.take_length] at g
        simp only
        repeat refine Tot.bindIdx 0 rfl h0 ?_
        rw [hd_eq h0]
        refine Tot.bindOf (total_eq _ (by have := g.len; omega) _ _ _) (Tot.bindT (cons_eq _) fun b hb => ?_)
        cases b with
        | false =>
          rw [if_neg (show ¬ ConsP (SumV l) from fun h => by have := hb.2 h; cases this)]
          exact Tot.iteT rfl (Tot.some rfl)
        | true =>
          rw [if_pos (show ConsP (SumV l) from hb.1 rfl)]
          exact Tot.iteF rfl (Tot.some rfl)

theorem sum_2_all (l : List api_Invoice) (hl : l.length ≤ 1000) : Tot (loop (invoice_Sum_2_L0 l) (0 : Int)) (AllQ l) := by
  refine Tot.rng l.length (fun k (_ : Unit) => (k : Int)) (fun k _ => ∀ v ∈ l.take k, ConsP v) _ () rfl (by simp) ?_ ?_
  · rintro k _ hk hj
    unfold invoice_Sum_2_L0
    refine Tot.iteT (decide_eq_true (by omega)) (Tot.bindIdx k rfl hk ?_)
    try refine Tot.bindIdx k rfl hk ?_
    refine Tot.bindT (cons_eq _) fun b hb => ?_
    cases b with
    | false => exact Tot.iteT rfl (Tot.stop fun h => by have := hb.2 (h _ (List.getElem_mem hk)); cases this)
    | true => exact Tot.iteF rfl (Tot.step () (cast_succ_w hk (by omega)) (mem_take_succ hk hj (hb.1 rfl)))
  · rintro _ hj
    rw [List.take_length] at hj
    unfold invoice_Sum_2_L0
    exact Tot.iteF (decide_eq_false (by omega)) (Tot.last hj)
theorem sum_2_ord (l : List api_Invoice) (hl : l.length ≤ 1000) (hc : ∀ v ∈ l, ConsP v) : Tot (loop (invoice_Sum_2_L1 l) ((0 : Int), ([] : List api_Line))) (OrdQ l) := by
  refine Tot.rng l.length (fun k (b : List api_Line) => ((k : Int), b)) (fun k b => b = SumL (l.take k) ∧ ∀ i (h : i < l.length), i < k → OrdAt l i l[i]) _ [] rfl ⟨rfl, fun i _ h => by omega⟩ ?_ ?_
  · rintro k _ hk ⟨rfl, hj⟩
    unfold invoice_Sum_2_L1
    simp only
    have h0 : 0 < l.length := by omega
    refine Tot.iteT (decide_eq_true (by omega)) (Tot.bindIdx k rfl hk ?_)
    try refine Tot.bindIdx k rfl hk ?_
    have hw : w64 ((k : Int) + 1) = (k : Int) + 1 := w64_id (by omega) (by omega)
    refine Tot.jnR (fun b : Bool => b = true ↔ ¬ OrdAt l k l[k]) (fun j hjj => ?_) ?_
    · rw [hw]
      refine Tot.ite (fun h => hjj _ ?_) (fun h => ?_)
      · simp only [true_iff]
        intro ho
        rw [ho.1] at h
        simp at h
      · refine Tot.bindIdx 0 rfl h0 ?_
        try refine Tot.bindIdx 0 rfl h0 ?_
        rw [hd_eq h0]
        refine Tot.ite (fun h' => hjj _ ?_) (fun h' => ?_)
        · simp only [true_iff]
          intro ho
          rw [ho.2.1] at h'
          simp at h'
        · refine Tot.bindIdx 0 rfl h0 ?_
          try refine Tot.bindIdx 0 rfl h0 ?_
          rw [hd_eq h0]
          refine hjj _ ?_
          rw [bne_iff_ne]
          constructor
          · intro h1 ho; exact h1 ho.2.2
          · intro h1 h2
            exact h1 ⟨by simpa using h, by simpa using h', h2⟩
    · intro b hb
      cases b with
      | true => exact Tot.iteT rfl (Tot.stop fun ho => hb.1 rfl (ho k hk))
      | false =>
        have ho : OrdAt l k l[k] := Classical.not_not.1 (mt hb.2 (by simp))
        refine Tot.iteF rfl (Tot.bindOf (prog_loop (sumL_good hc k) (hc _ (List.getElem_mem hk)).ids (by have := (hc _ (List.getElem_mem hk)).few; omega) 1) (Tot.step _ (Prod.ext (cast_succ_w hk (by omega)) rfl) ⟨by rw [take_snoc hk, sumL_snoc], fun i hi hik => ?_⟩))
        by_cases he : i = k
        · subst he; exact ho
        · exact hj i hi (by omega)
  · rintro _ ⟨rfl, hj⟩
    unfold invoice_Sum_2_L1
    exact Tot.iteF (decide_eq_false (by simp only; omega)) (Tot.last ⟨fun i hi => hj i hi hi, by simp only [List.take_length]⟩)
theorem sum_2_eq (l : List api_Invoice) : invoice_Sum_2 l = some (SumF l) := by
  refine Tot.eq ?_
  unfold invoice_Sum_2 SumF
  refine Tot.ite (fun h => ?_) (fun h => ?_)
  · rw [if_pos]
    · exact Tot.some rfl
    · simp only [Bool.or_eq_true, beq_iff_eq, decide_eq_true_eq] at h; omega
  · have hl : ¬ (l.length = 0 ∨ 1000 < l.length) := by
      simp only [Bool.or_eq_false_iff, beq_eq_false_iff_ne, decide_eq_false_iff_not] at h; omega
    rw [if_neg hl]
    refine Tot.bindT (sum_2_all l (by omega)) ?_
    rintro (u | u) hx
    · rw [if_pos (show ¬ ∀ v ∈ l, ConsP v from hx)]; exact Tot.some rfl
    · have hc : ∀ v ∈ l, ConsP v := hx
      rw [if_neg (Classical.not_not.2 hc)]
      refine Tot.bindT (sum_2_ord l (by omega) hc) ?_
      rintro (u | a) hx
      · rw [if_pos (show ¬ OrdP l from hx)]; exact Tot.some rfl
      · obtain ⟨ho, rfl⟩ := hx
        rw [if_neg (Classical.not_not.2 ho)]
        have h0 : 0 < l.length := by omega
        have g := sumL_good hc l.length
        rw [List.take_length] at g
        simp only
        repeat refine Tot.bindIdx 0 rfl h0 ?_
        rw [hd_eq h0]
        refine Tot.bindOf (total_eq _ (by have := g.len; omega) _ _ _) (Tot.bindT (cons_eq _) fun b hb => ?_)
        cases b with
        | false =>
          rw [if_neg (show ¬ ConsP (SumV l) from fun h => by have := hb.2 h; cases this)]
          exact Tot.iteT rfl (Tot.some rfl)
        | true =>
          rw [if_pos (show ConsP (SumV l) from hb.1 rfl)]
          exact Tot.iteF rfl (Tot.some rfl)

theorem sum_all_ref (l : List api_Invoice) (hl : l.length ≤ 1000) : Tot (loop (exchangepointref41_Sum_L0 l) (0 : Int)) (AllQ l) := by
  refine Tot.rng l.length (fun k (_ : Unit) => (k : Int)) (fun k _ => ∀ v ∈ l.take k, ConsP v) _ () rfl (by simp) ?_ ?_
  · rintro k _ hk hj
    unfold exchangepointref41_Sum_L0
    refine Tot.iteT (decide_eq_true (by omega)) (Tot.bindIdx k rfl hk ?_)
    refine Tot.bindT (cons_ref _) fun b hb => ?_
    cases b with
    | false => exact Tot.iteT rfl (Tot.stop fun h => by have := hb.2 (h _ (List.getElem_mem hk)); cases this)
    | true => exact Tot.iteF rfl (Tot.step () (cast_succ_w hk (by omega)) (mem_take_succ hk hj (hb.1 rfl)))
  · rintro _ hj
    rw [List.take_length] at hj
    unfold exchangepointref41_Sum_L0
    exact Tot.iteF (decide_eq_false (by omega)) (Tot.last hj)
theorem sum_ord_ref (l : List api_Invoice) (hl : l.length ≤ 1000) : Tot (loop (exchangepointref41_Sum_L1 l (hd l) (hd l)) (0 : Int)) (fun x => match x with | .inl _ => ¬ OrdP l | .inr _ => OrdP l) := by
  refine Tot.rng l.length (fun k (_ : Unit) => (k : Int)) (fun k _ => ∀ i (h : i < l.length), i < k → OrdAt l i l[i]) _ () rfl (fun i _ h => by omega) ?_ ?_
  · rintro k _ hk hj
    unfold exchangepointref41_Sum_L1
    have hw : w64 ((k : Int) + 1) = (k : Int) + 1 := w64_id (by omega) (by omega)
    refine Tot.iteT (decide_eq_true (by omega)) (Tot.bindIdx k rfl hk ?_)
    rw [hw]
    refine Tot.ite (fun h => Tot.stop fun ho => ?_) (fun h => Tot.step () (by simp) fun i hi hik => ?_)
    · obtain ⟨a, b, c⟩ := ho k hk
      rw [a, b, c] at h
      simp at h
    · by_cases he : i = k
      · subst he
        simp only [Bool.or_eq_false_iff, bne_eq_false_iff_eq] at h
        exact ⟨h.1.1, h.1.2, h.2⟩
      · exact hj i hi (by omega)
  · rintro _ hj
    unfold exchangepointref41_Sum_L1
    exact Tot.iteF (decide_eq_false (by omega)) (Tot.last fun i hi => hj i hi hi)
theorem sum_add_ref (l : List api_Invoice) (hl : l.length ≤ 1000) (h0 : 0 < l.length) (hc : ∀ v ∈ l, ConsP v) (ho : OrdP l) : Tot (loop (exchangepointref41_Sum_L2 l) ((0 : Int), (0 : Int), ([] : List api_Line), (0 : Int))) (fun x => x = ((l.length : Int), SumL l, totF (SumL l))) := by
  refine Tot.rng l.length (fun k (_ : Unit) => ((k : Int), (k : Int), SumL (l.take k), totF (SumL (l.take k)))) (fun _ _ => True) _ () rfl trivial ?_ ?_
  · rintro k _ hk _
    unfold exchangepointref41_Sum_L2
    have c := hc _ (List.getElem_mem hk)
    refine Tot.iteT (decide_eq_true (by simp only; omega)) (Tot.bindIdx k rfl hk (Tot.bindOf (ref_loop (sumL_good hc k) c.ids (by have := c.few; omega) 1) ?_))
    refine Tot.step () ?_ trivial
    simp only
    rw [take_snoc hk, sumL_snoc, addAll_tot, (ho k hk).1, ← c.tot, totF_sum l[k].fLines, w64_add_r, Int.one_mul]
    refine Prod.ext (cast_succ_w hk (by omega)) (Prod.ext ?_ rfl)
    simp
  · rintro _ _
    unfold exchangepointref41_Sum_L2
    exact Tot.iteF (decide_eq_false (by simp only; omega)) (Tot.last (by simp only [List.take_length]))
theorem sum_ref (l : List api_Invoice) : exchangepointref41_Sum l = some (SumF l) := by
  refine Tot.eq ?_
  unfold exchangepointref41_Sum SumF
  refine Tot.ite (fun h => ?_) (fun h => ?_)
  · rw [if_pos]
    · exact Tot.some rfl
    · simp only [Bool.or_eq_true, beq_iff_eq, decide_eq_true_eq] at h; omega
  · have hl : ¬ (l.length = 0 ∨ 1000 < l.length) := by
      simp only [Bool.or_eq_false_iff, beq_eq_false_iff_ne, decide_eq_false_iff_not] at h; omega
    rw [if_neg hl]
    refine Tot.bindT (sum_all_ref l (by omega)) ?_
    rintro (u | u) hx
    · rw [if_pos (show ¬ ∀ v ∈ l, ConsP v from hx)]; exact Tot.some rfl
    · have hc : ∀ v ∈ l, ConsP v := hx
      rw [if_neg (Classical.not_not.2 hc)]
      have h0 : 0 < l.length := by omega
      refine Tot.bindIdx 0 rfl h0 (Tot.bindIdx 0 rfl h0 ?_)
      rw [hd_eq h0]
      refine Tot.bindT (sum_ord_ref l (by omega)) ?_
      rintro (u | u) hx
      · rw [if_pos (show ¬ OrdP l from hx)]; exact Tot.some rfl
      · have ho : OrdP l := hx
        rw [if_neg (Classical.not_not.2 ho)]
        refine Tot.bindT (sum_add_ref l (by omega) h0 hc ho) ?_
        rintro _ rfl
        refine Tot.bindT (cons_ref _) fun b hb => ?_
        cases b with
        | false =>
          rw [if_neg (show ¬ ConsP (SumV l) from fun h => by have := hb.2 h; cases this)]
          exact Tot.iteT rfl (Tot.some rfl)
        | true =>
          rw [if_pos (show ConsP (SumV l) from hb.1 rfl)]
          exact Tot.iteF rfl (Tot.some rfl)
end Go.Proofs.Ytimcphncaffenaa
