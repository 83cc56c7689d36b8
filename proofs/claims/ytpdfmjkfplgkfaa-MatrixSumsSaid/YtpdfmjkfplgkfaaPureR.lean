/- Chapter 38 in plain Lean: which lists are matrices; sums of matrices; sums of cells. -/
import Derived.Test.YtpdfmjkfplgkfaaPureQ
namespace Go.Proofs.Ytpdfmjkfplgkfaa
open Go Go.Vc

def cOk (c : api_Cell) : Prop := cnum c ∧ (1 ≤ c.fSamples ∧ c.fSamples ≤ 1099511627776) ∧ (0 ≤ c.fBytes ∧ c.fBytes ≤ 1125899906842624)
instance (c : api_Cell) : Decidable (cnum c) := by unfold cnum; infer_instance
instance (c : api_Cell) : Decidable (cOk c) := by unfold cOk; infer_instance
def MOk (l : List api_Cell) : Prop := (∀ c ∈ l, cOk c) ∧ l.Pairwise cLt
theorem mok_nil : MOk [] := ⟨fun _ h => (by cases h), .nil⟩
theorem mok_take_succ {l : List api_Cell} {k : Nat} (hk : k < l.length) (h : MOk (l.take k)) (hs : cOk l[k]) (hp : ∀ m (_ : k = m + 1), cLt (l[m]'(by omega)) l[k]) : MOk (l.take (k + 1)) := by
  rw [take_snoc hk]
  refine ⟨fun s hm => ?_, ?_⟩
  · rcases List.mem_append.1 hm with hm | hm
    · exact h.1 s hm
    · rw [List.mem_singleton.1 hm]; exact hs
  · rw [List.pairwise_append]
    refine ⟨h.2, List.pairwise_singleton _ _, fun x hx y hy => ?_⟩
    rw [List.mem_singleton.1 hy]
    cases k with
    | zero => simp at hx
    | succ m =>
      have hm := hp m rfl
      have h2 := h.2
      rw [take_snoc (by omega : m < l.length)] at hx h2
      rcases List.mem_append.1 hx with hx | hx
      · rw [List.pairwise_append] at h2
        exact cLt_trans (h2.2.2 x hx l[m] (List.mem_singleton.2 rfl)) hm
      · rw [List.mem_singleton.1 hx]; exact hm
theorem mat_valid (l : List api_Cell) (hl : l.length ≤ 4611686018427387904) : Tot (matrix_Valid l) (fun b => b = true ↔ MOk l ∧ l.length ≤ 1024) := by
  unfold matrix_Valid
  refine Tot.ite (fun h => ?_) (fun h => ?_)
  · have : 1024 < (l.length : Int) := by simpa using h
    exact Tot.some ⟨fun e => (by cases e), fun e => by omega⟩
  · have hlen : l.length ≤ 1024 := by simp at h; omega
    refine Tot.bindRng l.length (fun k (_ : Unit) => ((k : Nat) : Int)) (fun k _ => MOk (l.take k)) (fun x => match x with | .inl _ => ¬ MOk l | .inr _ => MOk l) () rfl mok_nil (fun k b hk hb => ?_) (fun b hb => ?_) (fun x hx => ?_)
    · unfold matrix_Valid_L0
      have hw : w64 ((k : Int) + 1) = ((k + 1 : Nat) : Int) := by rw [w64_id (by omega) (by omega)]; rfl
      refine Tot.iteT (by simpa using hk) (Tot.bindIdx k rfl hk ?_)
      refine Tot.jnR (fun m : Bool => (m = true → ¬ MOk l) ∧ (m = false → MOk (l.take (k + 1)))) (fun j hj => ?_) (fun m hm => ?_)
      · refine Tot.bindOf (number_eq _) (Tot.ite (fun hg => ?_) (fun hg => ?_))
        · refine hj true ⟨fun _ ho => ?_, fun e => by cases e⟩
          have h1 := (ho.1 _ (List.getElem_mem hk)).1.1
          simp [h1] at hg
        · have hn1 : num l[k].fFrom := by simpa using hg
          refine Tot.bindOf (number_eq _) (Tot.ite (fun hg2 => ?_) (fun hg2 => ?_))
          · refine hj true ⟨fun _ ho => ?_, fun e => by cases e⟩
            have h1 := ho.1 _ (List.getElem_mem hk)
            unfold cOk cnum at h1
            rw [decide_eq_true h1.1.2] at hg2
            simp at hg2
            omega
          · have hc : cOk l[k] := by
              simp only [Bool.or_eq_false_iff, decide_eq_false_iff_not, Bool.not_eq_false', decide_eq_true_eq] at hg2
              unfold cOk cnum
              exact ⟨⟨hn1, hg2.1.1.1.1⟩, ⟨by omega, by omega⟩, ⟨by omega, by omega⟩⟩
            refine Tot.ite (fun h2 => ?_) (fun h2 => ?_)
            · obtain ⟨m, rfl⟩ : ∃ m, k = m + 1 := ⟨k - 1, by simp at h2; omega⟩
              have hp : cOk (l[m]'(by omega)) := hb.1 _ (prev_mem (by omega))
              refine Tot.bindIdx m (cast_pred_w (n := l.length) (by omega) hl) (by omega) (Tot.bindOf (compare_eq hp.1 hc.1) (hj _ ?_))
              have hcmp := cmpC_lt (l[m]'(by omega)) l[m + 1]
              unfold cmpC at hcmp
              refine ⟨fun e ho => ?_, fun e => ?_⟩
              · have := List.pairwise_iff_getElem.1 ho.2 m (m + 1) (by omega) hk (by omega)
                have := hcmp.2 this
                have e' := of_decide_eq_true e
                omega
              · refine mok_take_succ hk hb hc fun m' em => ?_
                obtain rfl : m = m' := by omega
                have e' := of_decide_eq_false e
                exact hcmp.1 (by omega)
            · have : k = 0 := by simpa using h2
              exact hj false ⟨fun e => (by cases e), fun _ => mok_take_succ hk hb hc fun m em => by omega⟩
      · refine Tot.ite (fun h => Tot.stop (hm.1 h)) (fun h => Tot.step () hw (hm.2 h))
    · unfold matrix_Valid_L0
      refine Tot.iteF (by simp) (Tot.last ?_)
      rw [List.take_length] at hb
      exact hb
    · cases x with
      | inl _ => exact Tot.some ⟨fun e => (by cases e), fun e => absurd e.1 hx⟩
      | inr _ => exact Tot.some ⟨fun _ => ⟨hx, hlen⟩, fun _ => rfl⟩
theorem refm_valid (l : List api_Cell) (hl : l.length ≤ 4611686018427387904) : Tot (exchangepointref38_Valid l) (fun b => b = true ↔ MOk l ∧ l.length ≤ 1024) := by
  unfold exchangepointref38_Valid
  refine Tot.bindRng l.length (fun k (_ : Unit) => ((k : Nat) : Int)) (fun k _ => MOk (l.take k)) (fun x => match x with | .inl _ => ¬ MOk l | .inr _ => MOk l) () rfl mok_nil (fun k b hk hb => ?_) (fun b hb => ?_) (fun x hx => ?_)
  · unfold exchangepointref38_Valid_L0
    have hw : w64 ((k : Int) + 1) = ((k + 1 : Nat) : Int) := by rw [w64_id (by omega) (by omega)]; rfl
    refine Tot.iteT (by simpa using hk) (Tot.bindIdx k rfl hk ?_)
    refine Tot.jnR (fun m : Bool => (m = true → ¬ MOk l) ∧ (m = false → MOk (l.take (k + 1)))) (fun j hj => ?_) (fun m hm => ?_)
    · refine Tot.bindOf (asn_eq _) (Tot.ite (fun hg => ?_) (fun hg => ?_))
      · refine hj true ⟨fun _ ho => ?_, fun e => by cases e⟩
        have h1 := (ho.1 _ (List.getElem_mem hk)).1.1
        simp [h1] at hg
      · have hn1 : num l[k].fFrom := by simpa using hg
        refine Tot.bindOf (asn_eq _) (Tot.ite (fun hg2 => ?_) (fun hg2 => ?_))
        · refine hj true ⟨fun _ ho => ?_, fun e => by cases e⟩
          have h1 := ho.1 _ (List.getElem_mem hk)
          unfold cOk cnum at h1
          rw [decide_eq_true h1.1.2] at hg2
          simp at hg2
          omega
        · have hc : cOk l[k] := by
            simp only [Bool.or_eq_false_iff, decide_eq_false_iff_not, Bool.not_eq_false', decide_eq_true_eq] at hg2
            unfold cOk cnum
            exact ⟨⟨hn1, hg2.1.1.1.1⟩, ⟨by omega, by omega⟩, ⟨by omega, by omega⟩⟩
          refine Tot.ite (fun h2 => ?_) (fun h2 => ?_)
          · obtain ⟨m, rfl⟩ : ∃ m, k = m + 1 := ⟨k - 1, by simp at h2; omega⟩
            refine Tot.bindIdx m (cast_pred_w (n := l.length) (by omega) hl) (by omega) (Tot.bindOf (less_eq _ _) (hj _ ?_))
            refine ⟨fun e ho => ?_, fun e => ?_⟩
            · have := List.pairwise_iff_getElem.1 ho.2 m (m + 1) (by omega) hk (by omega)
              simp [this] at e
            · refine mok_take_succ hk hb hc fun m' em => ?_
              obtain rfl : m = m' := by omega
              simpa using e
          · have : k = 0 := by simpa using h2
            exact hj false ⟨fun e => (by cases e), fun _ => mok_take_succ hk hb hc fun m em => by omega⟩
    · refine Tot.ite (fun h => Tot.stop (hm.1 h)) (fun h => Tot.step () hw (hm.2 h))
  · unfold exchangepointref38_Valid_L0
    refine Tot.iteF (by simp) (Tot.last ?_)
    rw [List.take_length] at hb
    exact hb
  · cases x with
    | inl _ => exact Tot.some ⟨fun e => (by cases e), fun e => absurd e.1 hx⟩
    | inr _ => exact Tot.some ⟨fun e => ⟨hx, by simp at e; omega⟩, fun e => by simp; omega⟩
open Classical in
noncomputable def ValidF (l : List api_Cell) : Bool := decide (MOk l ∧ l.length ≤ 1024)
open Classical in
theorem valid_eq (l : List api_Cell) (hl : l.length ≤ 4611686018427387904) : matrix_Valid l = some (ValidF l) :=
  Tot.eq ((mat_valid l hl).mono fun b hb => by unfold ValidF; rw [Bool.eq_iff_iff, hb, decide_eq_true_iff])
open Classical in
theorem rvalid_eq (l : List api_Cell) (hl : l.length ≤ 4611686018427387904) : exchangepointref38_Valid l = some (ValidF l) :=
  Tot.eq ((refm_valid l hl).mono fun b hb => by unfold ValidF; rw [Bool.eq_iff_iff, hb, decide_eq_true_iff])
open Classical in
theorem validF_iff {l : List api_Cell} : ValidF l = true ↔ MOk l ∧ l.length ≤ 1024 := by unfold ValidF; rw [decide_eq_true_iff]

-- sums of matrices

theorem i64_of {x : Int} (h : -9223372036854775808 ≤ x) (h' : x ≤ 9223372036854775807) : I64 x := by
  have e1 : IntKind.i64.min = -9223372036854775808 := by decide
  have e2 : IntKind.i64.max = 9223372036854775807 := by decide
  omega
theorem put_snoc (c : api_Cell) : ∀ l : List api_Cell, (∀ x ∈ l, cLt x c) → PutL l c = l ++ [c]
  | [], _ => rfl
  | x :: l, h => by rw [PutL, if_pos (h x List.mem_cons_self), put_snoc c l fun y hy => h y (List.mem_cons_of_mem _ hy)]; rfl
theorem putAll_app : ∀ (b a : List api_Cell), (a ++ b).Pairwise cLt → putAll a b = a ++ b
  | [], a, _ => by simp [putAll]
  | c :: b, a, h => by
    have h1 := List.pairwise_append.1 h
    show putAll (PutL a c) b = _
    rw [put_snoc c a fun x hx => h1.2.2 x hx c List.mem_cons_self]
    have e : a ++ c :: b = (a ++ [c]) ++ b := by simp
    rw [e] at h ⊢
    exact putAll_app b (a ++ [c]) h
theorem putAll_self {a : List api_Cell} (h : MOk a) : putAll [] a = a := by
  have := putAll_app a [] (by simpa using h.2)
  simpa using this
noncomputable def AddF (a b : List api_Cell) : List api_Cell × Int :=
  if ValidF a = true ∧ ValidF b = true then (if ValidF (putAll a b) = true then (putAll a b, 0) else ([], 3)) else ([], 1)
theorem add_loop1 (x : List api_Cell) (hx : ∀ c ∈ x, cOk c) (hl : x.length ≤ 1024) (m : List (matrix_pair × api_Cell)) (l : List api_Cell) (hm : Rel m l) (hml : m.length ≤ 1024) :
    Tot (loop (matrix_Add_L1 x) ((0 : Int), m)) (fun r => Rel r (putAll l x) ∧ r.length ≤ m.length + x.length) := by
  refine Tot.rng x.length (fun k b => (((k : Nat) : Int), b)) (fun k b => Rel b (putAll l (x.take k)) ∧ b.length ≤ m.length + k) _ m rfl ⟨hm, Nat.le_refl _⟩ (fun k b hk hb => ?_) (fun b hb => ?_)
  · unfold matrix_Add_L1
    have hw : w64 ((k : Int) + 1) = ((k + 1 : Nat) : Int) := by rw [w64_id (by omega) (by omega)]; rfl
    refine Tot.iteT (by simpa using hk) (Tot.bindIdx k rfl hk ?_)
    have hc := hx _ (List.getElem_mem hk)
    unfold cOk at hc
    obtain ⟨m', hm', hrel⟩ := rel_put hb.1 (i64_of (x := x[k].fSamples) (by omega) (by omega)) (i64_of (x := x[k].fBytes) (by omega) (by omega))
    have hlen : m'.length ≤ b.length + 1 := by
      unfold matrix_put at hm'
      cases hm'
      exact mput_len _ _ _ _
    have hb2 := hb.2
    refine Tot.bindOf hm' (Tot.step m' (by rw [hw]) ⟨?_, by omega⟩)
    rw [take_snoc hk, putAll_snoc]
    exact hrel
  · unfold matrix_Add_L1
    refine Tot.iteF (by simp) (Tot.last ?_)
    rw [List.take_length] at hb
    exact hb
theorem add_eq (a b : List api_Cell) (ha : a.length ≤ 4611686018427387904) (hb : b.length ≤ 4611686018427387904) : matrix_Add a b = some (AddF a b) := by
  refine Tot.eq ?_
  unfold matrix_Add AddF
  refine Tot.jnR (fun m : Bool => m = !(ValidF a && ValidF b)) (fun j hj => ?_) (fun m hm => ?_)
  · refine Tot.bindOf (valid_eq a ha) (Tot.ite (fun h => hj true ?_) (fun h => Tot.bindOf (valid_eq b hb) (hj _ ?_)))
    · cases hv : ValidF a <;> simp_all
    · cases hv : ValidF a <;> simp_all
  · subst hm
    by_cases hv : ValidF a = true ∧ ValidF b = true
    · rw [if_pos hv]
      obtain ⟨va, la⟩ := validF_iff.1 hv.1
      obtain ⟨vb, lb⟩ := validF_iff.1 hv.2
      refine Tot.iteF (by simp [hv.1, hv.2]) ?_
      refine Tot.bindRng 2 (fun k b => (((k : Nat) : Int), b)) (fun k m => match k with | 0 => m = [] | 1 => Rel m a ∧ m.length ≤ 1024 | _ => Rel m (putAll a b) ∧ m.length ≤ 2048) (fun m => Rel m (putAll a b) ∧ m.length ≤ 2048) [] rfl rfl (fun k m hk hm => ?_) (fun m hm => ?_) (fun m hm => ?_)
      · unfold matrix_Add_L0
        have hw : w64 ((k : Int) + 1) = ((k + 1 : Nat) : Int) := by rw [w64_id (by omega) (by omega)]; rfl
        refine Tot.iteT (by simp; omega) (Tot.bindIdx k rfl (by simpa using hk) ?_)
        have e : k = 0 ∨ k = 1 := by omega
        rcases e with rfl | rfl
        · simp only at hm
          subst hm
          refine Tot.bindT (add_loop1 a va.1 la [] [] rel_nil (by simp)) fun r hr => Tot.step r (by rw [hw]) ?_
          rw [putAll_self va] at hr
          simp only [List.length_nil] at hr
          exact ⟨hr.1, by omega⟩
        · refine Tot.bindT (add_loop1 b vb.1 lb m a hm.1 hm.2) fun r hr => Tot.step r (by rw [hw]) ?_
          exact ⟨hr.1, by have := hm.2; have := hr.2; omega⟩
      · unfold matrix_Add_L0
        exact Tot.iteF (by simp) (Tot.last hm)
      · have hnum := putAll_num b a (fun x hx => (va.1 x hx).1) (fun x hx => (vb.1 x hx).1)
        have hlen := putAll_len b a
        refine Tot.bindOf (listed_eq hm.1 hnum (by have := hm.2; omega)) (Tot.bindOf (valid_eq _ (by omega)) ?_)
        refine Tot.ite (fun h => Tot.some ?_) (fun h => Tot.some ?_)
        · rw [if_neg (by simpa using h)]
        · rw [if_pos (by simpa using h)]
    · rw [if_neg hv]
      refine Tot.iteT ?_ (Tot.some rfl)
      cases h1 : ValidF a <;> cases h2 : ValidF b <;> simp_all
theorem radd_eq (a b : List api_Cell) (ha : a.length ≤ 4611686018427387904) (hb : b.length ≤ 4611686018427387904) : exchangepointref38_Add a b = some (AddF a b) := by
  refine Tot.eq ?_
  unfold exchangepointref38_Add AddF
  refine Tot.jnR (fun m : Bool => m = !(ValidF a && ValidF b)) (fun j hj => ?_) (fun m hm => ?_)
  · refine Tot.bindOf (rvalid_eq a ha) (Tot.ite (fun h => hj true ?_) (fun h => Tot.bindOf (rvalid_eq b hb) (hj _ ?_)))
    · cases hv : ValidF a <;> simp_all
    · cases hv : ValidF a <;> simp_all
  · subst hm
    by_cases hv : ValidF a = true ∧ ValidF b = true
    · rw [if_pos hv]
      obtain ⟨va, la⟩ := validF_iff.1 hv.1
      obtain ⟨vb, lb⟩ := validF_iff.1 hv.2
      refine Tot.iteF (by simp [hv.1, hv.2]) (Tot.chk (limB (by omega)) ?_)
      refine Tot.bindRng b.length (fun k m => (m, ((k : Nat) : Int))) (fun k m => m = putAll a (b.take k)) (fun m => m = putAll a b) a rfl rfl (fun k m hk hm => ?_) (fun m hm => ?_) (fun m hm => ?_)
      · subst hm
        unfold exchangepointref38_Add_L0
        have hw : w64 ((k : Int) + 1) = ((k + 1 : Nat) : Int) := by rw [w64_id (by omega) (by omega)]; rfl
        have hlen := putAll_len (b.take k) a
        rw [List.length_take] at hlen
        refine Tot.iteT (by simpa using hk) (Tot.bindIdx k rfl hk (Tot.bindOf (put_eq _ _ (by show (putAll a (b.take k)).length ≤ _; omega)) (Tot.step _ (by rw [hw]) ?_)))
        rw [take_snoc hk, putAll_snoc]
      · unfold exchangepointref38_Add_L0
        refine Tot.iteF (by simp) (Tot.last ?_)
        rw [List.take_length] at hm
        exact hm
      · subst hm
        have hlen := putAll_len b a
        refine Tot.bindOf (rvalid_eq _ (by omega)) ?_
        refine Tot.ite (fun h => Tot.some ?_) (fun h => Tot.some ?_)
        · rw [if_neg (by simpa using h)]
        · rw [if_pos (by simpa using h)]
    · rw [if_neg hv]
      refine Tot.iteT ?_ (Tot.some rfl)
      cases h1 : ValidF a <;> cases h2 : ValidF b <;> simp_all

-- sums of cells

def stepW (s : Int × Int) (c : api_Cell) : Int × Int := (w64 (s.1 + c.fSamples), w64 (s.2 + c.fBytes))
def SumW (l : List api_Cell) : Int × Int := l.foldl stepW (0, 0)
theorem sumW_snoc (l : List api_Cell) (c : api_Cell) : SumW (l ++ [c]) = stepW (SumW l) c := by unfold SumW; rw [List.foldl_append]; rfl
theorem rtotal_eq (l : List api_Cell) (hl : l.length ≤ 4611686018427387904) : exchangepointref38_Total l = some (SumW l) := by
  refine Tot.eq ?_
  unfold exchangepointref38_Total
  refine Tot.bindRng l.length (fun k (b : Int × Int) => (b.1, b.2, ((k : Nat) : Int))) (fun k b => b = SumW (l.take k)) (fun x => x = SumW l) (0, 0) rfl rfl (fun k b hk hb => ?_) (fun b hb => ?_) (fun x hx => Tot.some (by rw [hx]))
  · unfold exchangepointref38_Total_L0
    have hw : w64 ((k : Int) + 1) = ((k + 1 : Nat) : Int) := by rw [w64_id (by omega) (by omega)]; rfl
    refine Tot.iteT (by simpa using hk) (Tot.bindIdx k rfl hk (Tot.step (stepW b l[k]) (by rw [hw]; rfl) ?_))
    rw [take_snoc hk, sumW_snoc, hb]
  · unfold exchangepointref38_Total_L0
    refine Tot.iteF (by simp) (Tot.last ?_)
    rw [List.take_length] at hb
    exact hb
theorem total_eq (l : List api_Cell) (hl : l.length ≤ 4611686018427387904) : matrix_Total l = some (SumW l) := by
  refine Tot.eq ?_
  unfold matrix_Total matrix_sums
  refine Tot.bind (Tot.bindRng l.length (fun k (b : Int × Int) => (b.1, b.2, ((k : Nat) : Int))) (fun k b => b = SumW (l.take k)) (fun x => x = SumW l) (0, 0) rfl rfl (fun k b hk hb => ?_) (fun b hb => ?_) (fun x hx => Tot.some (Tot.some (by rw [hx]))))
  · unfold matrix_sums_L0
    have hw : w64 ((k : Int) + 1) = ((k + 1 : Nat) : Int) := by rw [w64_id (by omega) (by omega)]; rfl
    refine Tot.iteT (by simpa using hk) (Tot.bindIdx k rfl hk (Tot.bindOf rfl (Tot.jn (Tot.iteT rfl (Tot.step (stepW b l[k]) (by rw [hw]; rfl) ?_)))))
    rw [take_snoc hk, sumW_snoc, hb]
  · unfold matrix_sums_L0
    refine Tot.iteF (by simp) (Tot.last ?_)
    rw [List.take_length] at hb
    exact hb
theorem filter_snoc {α : Type} {l : List α} {k : Nat} (p : α → Bool) (h : k < l.length) : (l.take (k + 1)).filter p = if p l[k] = true then (l.take k).filter p ++ [l[k]] else (l.take k).filter p := by
  rw [take_snoc h, List.filter_append]
  by_cases hp : p l[k] = true <;> simp [hp]
theorem from_eq (l : List api_Cell) (w : Int) (hl : l.length ≤ 4611686018427387904) : matrix_From l w = some (SumW (l.filter fun c => c.fFrom == w)) := by
  refine Tot.eq ?_
  unfold matrix_From matrix_sums_2
  refine Tot.bind (Tot.bindRng l.length (fun k (b : Int × Int) => (b.1, b.2, ((k : Nat) : Int))) (fun k b => b = SumW ((l.take k).filter fun c => c.fFrom == w)) (fun x => x = SumW (l.filter fun c => c.fFrom == w)) (0, 0) rfl rfl (fun k b hk hb => ?_) (fun b hb => ?_) (fun x hx => Tot.some (Tot.some (by rw [hx]))))
  · unfold matrix_sums_2_L0
    have hw : w64 ((k : Int) + 1) = ((k + 1 : Nat) : Int) := by rw [w64_id (by omega) (by omega)]; rfl
    refine Tot.iteT (by simpa using hk) (Tot.bindIdx k rfl hk (Tot.bindOf rfl (Tot.jn (Tot.ite (fun h => Tot.step (stepW b l[k]) (by rw [hw]; rfl) ?_) (fun h => Tot.step b (by rw [hw]) ?_)))))
    · rw [filter_snoc _ hk, if_pos h, sumW_snoc, hb]
    · rw [filter_snoc _ hk, if_neg (by rw [h]; simp), hb]
  · unfold matrix_sums_2_L0
    refine Tot.iteF (by simp) (Tot.last ?_)
    rw [List.take_length] at hb
    exact hb
theorem to_eq (l : List api_Cell) (w : Int) (hl : l.length ≤ 4611686018427387904) : matrix_To l w = some (SumW (l.filter fun c => c.fTo == w)) := by
  refine Tot.eq ?_
  unfold matrix_To matrix_sums_3
  refine Tot.bind (Tot.bindRng l.length (fun k (b : Int × Int) => (b.1, b.2, ((k : Nat) : Int))) (fun k b => b = SumW ((l.take k).filter fun c => c.fTo == w)) (fun x => x = SumW (l.filter fun c => c.fTo == w)) (0, 0) rfl rfl (fun k b hk hb => ?_) (fun b hb => ?_) (fun x hx => Tot.some (Tot.some (by rw [hx]))))
  · unfold matrix_sums_3_L0
    have hw : w64 ((k : Int) + 1) = ((k + 1 : Nat) : Int) := by rw [w64_id (by omega) (by omega)]; rfl
    refine Tot.iteT (by simpa using hk) (Tot.bindIdx k rfl hk (Tot.bindOf rfl (Tot.jn (Tot.ite (fun h => Tot.step (stepW b l[k]) (by rw [hw]; rfl) ?_) (fun h => Tot.step b (by rw [hw]) ?_)))))
    · rw [filter_snoc _ hk, if_pos h, sumW_snoc, hb]
    · rw [filter_snoc _ hk, if_neg (by rw [h]; simp), hb]
  · unfold matrix_sums_3_L0
    refine Tot.iteF (by simp) (Tot.last ?_)
    rw [List.take_length] at hb
    exact hb
theorem rfrom_eq (l : List api_Cell) (w : Int) (hl : l.length ≤ 4000000000) : exchangepointref38_From l w = some (SumW (l.filter fun c => c.fFrom == w)) := by
  refine Tot.eq ?_
  unfold exchangepointref38_From
  refine Tot.bindRng l.length (fun k b => (((k : Nat) : Int), b)) (fun k b => b = ((l.take k).filter fun c => c.fFrom == w)) (fun x => x = (l.filter fun c => c.fFrom == w)) [] rfl rfl (fun k b hk hb => ?_) (fun b hb => ?_) (fun x hx => ?_)
  · unfold exchangepointref38_From_L0
    have hw : w64 ((k : Int) + 1) = ((k + 1 : Nat) : Int) := by rw [w64_id (by omega) (by omega)]; rfl
    have hlen : b.length ≤ k := by rw [hb]; exact Nat.le_trans (List.length_filter_le ..) (by rw [List.length_take]; omega)
    refine Tot.iteT (by simpa using hk) (Tot.bindIdx k rfl hk (Tot.jn (Tot.ite (fun h => Tot.chk (limB (by simp; omega)) (Tot.step (b ++ [l[k]]) (by rw [hw]) ?_)) (fun h => Tot.step b (by rw [hw]) ?_))))
    · rw [filter_snoc _ hk, if_pos h, hb]
    · rw [filter_snoc _ hk, if_neg (by rw [h]; simp), hb]
  · unfold exchangepointref38_From_L0
    refine Tot.iteF (by simp) (Tot.last ?_)
    rw [List.take_length] at hb
    exact hb
  · subst hx
    exact Tot.bindOf (rtotal_eq _ (Nat.le_trans (List.length_filter_le ..) (by omega))) (Tot.some rfl)
theorem rto_eq (l : List api_Cell) (w : Int) (hl : l.length ≤ 4000000000) : exchangepointref38_To l w = some (SumW (l.filter fun c => c.fTo == w)) := by
  refine Tot.eq ?_
  unfold exchangepointref38_To
  refine Tot.bindRng l.length (fun k b => (((k : Nat) : Int), b)) (fun k b => b = ((l.take k).filter fun c => c.fTo == w)) (fun x => x = (l.filter fun c => c.fTo == w)) [] rfl rfl (fun k b hk hb => ?_) (fun b hb => ?_) (fun x hx => ?_)
  · unfold exchangepointref38_To_L0
    have hw : w64 ((k : Int) + 1) = ((k + 1 : Nat) : Int) := by rw [w64_id (by omega) (by omega)]; rfl
    have hlen : b.length ≤ k := by rw [hb]; exact Nat.le_trans (List.length_filter_le ..) (by rw [List.length_take]; omega)
    refine Tot.iteT (by simpa using hk) (Tot.bindIdx k rfl hk (Tot.jn (Tot.ite (fun h => Tot.chk (limB (by simp; omega)) (Tot.step (b ++ [l[k]]) (by rw [hw]) ?_)) (fun h => Tot.step b (by rw [hw]) ?_))))
    · rw [filter_snoc _ hk, if_pos h, hb]
    · rw [filter_snoc _ hk, if_neg (by rw [h]; simp), hb]
  · unfold exchangepointref38_To_L0
    refine Tot.iteF (by simp) (Tot.last ?_)
    rw [List.take_length] at hb
    exact hb
  · subst hx
    exact Tot.bindOf (rtotal_eq _ (Nat.le_trans (List.length_filter_le ..) (by omega))) (Tot.some rfl)
theorem same_self (l : List api_Cell) (hl : l.length ≤ 4611686018427387904) : exchangepointref38_Same l l = some true := by
  refine Tot.eq ?_
  unfold exchangepointref38_Same
  refine Tot.iteF (by simp) (Tot.bindRng l.length (fun k (_ : Unit) => ((k : Nat) : Int)) (fun _ _ => True) (fun x => x = .inr ()) () rfl trivial (fun k b hk _ => ?_) (fun b _ => ?_) (fun x hx => by subst hx; exact Tot.some rfl))
  · unfold exchangepointref38_Same_L0
    have hw : w64 ((k : Int) + 1) = ((k + 1 : Nat) : Int) := by rw [w64_id (by omega) (by omega)]; rfl
    exact Tot.iteT (by simpa using hk) (Tot.bindIdx k rfl hk (Tot.bindIdx k rfl hk (Tot.iteF (by simp) (Tot.step () hw trivial))))
  · unfold exchangepointref38_Same_L0
    exact Tot.iteF (by simp) (Tot.last rfl)
end Go.Proofs.Ytpdfmjkfplgkfaa
