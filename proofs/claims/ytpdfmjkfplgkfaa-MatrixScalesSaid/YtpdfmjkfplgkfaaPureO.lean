/- Chapter 38 in plain Lean: both matrices of samples -/
import Derived.Test.YtpdfmjkfplgkfaaPureK
namespace Go.Proofs.Ytpdfmjkfplgkfaa
open Go Go.Vc

abbrev ownD (rs : List api_Rule) (q : Int) : Int := (ownF rs q).getD 0
def cellOf (rs : List api_Rule) (s : api_Sample) : api_Cell := api_Cell.mk (ownD rs s.fIn) (ownD rs s.fOut) 1 s.fBytes
/-- a sample whose ports have owners -/
def owned (rs : List api_Rule) (s : api_Sample) : Bool := (ownF rs s.fIn).isSome && (ownF rs s.fOut).isSome
instance (n : Int) : Decidable (num n) := by unfold num; infer_instance
def good (rs : List api_Rule) (s : api_Sample) : Bool := decide (num (ownD rs s.fIn)) && decide (num (ownD rs s.fOut))
def putAll (l : List api_Cell) (cs : List api_Cell) : List api_Cell := cs.foldl PutL l
open Classical in
noncomputable def CellsF (l : List api_Sample) (rs : List api_Rule) : List api_Cell × Int :=
  if Ok l ∧ l.length ≤ 1000 then
    (if l.all (owned rs) = true then (if l.all (good rs) = true then (putAll [] (l.map (cellOf rs)), 0) else ([], 1)) else ([], 7))
  else ([], 1)
theorem num_dec (n : Int) : ((decide ((1 : Int) ≤ n)) && (decide (n ≤ (4294967295 : Int)))) = decide (num n) := by
  by_cases h : num n
  · rw [decide_eq_true h]
    unfold num at h
    simp [h]
  · rw [decide_eq_false h]
    unfold num at h
    rw [Bool.and_eq_false_iff]
    by_cases h1 : 1 ≤ n
    · exact .inr (by simp; omega)
    · exact .inl (by simp; omega)
theorem number_eq (n : Int) : matrix_number n = some (decide (num n)) := congrArg some (num_dec n)
theorem asn_eq (n : Int) : exchangepointref38_asn n = some (decide (num n)) := congrArg some (num_dec n)
theorem mput_len {α β : Type} (eq : α → α → Bool) (k : α) (v : β) : ∀ l : List (α × β), (mput eq l k v).length ≤ l.length + 1
  | [] => by simp [mput]
  | p :: l => by
    have := mput_len eq k v l
    unfold mput
    split
    · simp
    · simp; omega
theorem putAll_snoc (l : List api_Cell) (cs : List api_Cell) (c : api_Cell) : putAll l (cs ++ [c]) = PutL (putAll l cs) c := by
  unfold putAll; rw [List.foldl_append]; rfl
theorem putAll_len (cs : List api_Cell) : ∀ l : List api_Cell, (putAll l cs).length ≤ l.length + cs.length := by
  induction cs with
  | nil => intro l; simp [putAll]
  | cons c cs ih =>
    intro l
    have h1 := ih (PutL l c)
    have h2 := putL_len c l
    show (putAll (PutL l c) cs).length ≤ _
    simp only [List.length_cons]
    omega

theorem all_snoc {α : Type} {l : List α} {k : Nat} (p : α → Bool) (h : k < l.length) : (l.take (k + 1)).all p = ((l.take k).all p && p l[k]) := by
  rw [take_snoc h, List.all_append]; simp only [List.all_cons, List.all_nil, Bool.and_true]
theorem all_of_take {α : Type} {l : List α} {k : Nat} {p : α → Bool} (h : k < l.length) (hp : p l[k] = false) : l.all p = false := by
  rw [← Bool.not_eq_true, List.all_eq_true]
  intro ha
  have := ha _ (List.getElem_mem h)
  rw [hp] at this; cases this
def errOf (b : Bool) : Int := if b then 0 else 1

theorem cells_loop (l : List api_Sample) (rs : List api_Rule) (p10 : List (Int × Int)) (hm : ∀ q, mget keq3 p10 q = ownF rs q) (hl : l.length ≤ 1000) (hok : ∀ s ∈ l, sOk s) :
    Tot (loop (matrix_Cells_L1 l p10) ((0 : Int), (0 : Int), ([] : List (matrix_pair × api_Cell)))) (fun x => match x with
      | .inl _ => l.all (owned rs) = false
      | .inr y => l.all (owned rs) = true ∧ y.1 = errOf (l.all (good rs)) ∧ y.2.length ≤ l.length ∧ Rel y.2 (putAll [] (l.map (cellOf rs)))) := by
  refine Tot.rng l.length (fun k (b : Int × List (matrix_pair × api_Cell)) => (b.1, ((k : Nat) : Int), b.2))
    (fun k b => (l.take k).all (owned rs) = true ∧ b.1 = errOf ((l.take k).all (good rs)) ∧ b.2.length ≤ k ∧ Rel b.2 (putAll [] ((l.take k).map (cellOf rs)))) _ ((0 : Int), []) rfl ⟨rfl, rfl, Nat.le_refl _, rel_nil⟩ (fun k b hk hb => ?_) (fun b hb => ?_)
  · obtain ⟨e, m⟩ := b
    obtain ⟨h1, h2, h3, h4⟩ := hb
    simp only at h1 h2 h3 h4
    unfold matrix_Cells_L1
    refine Tot.iteT (by simpa using hk) (Tot.bindIdx k rfl hk ?_)
    simp only [hm]
    have hw : w64 ((k : Int) + 1) = ((k + 1 : Nat) : Int) := by rw [w64_id (by omega) (by omega)]; rfl
    refine Tot.ite (fun ho => ?_) (fun ho => ?_)
    · refine Tot.stop (all_of_take hk ?_)
      unfold owned
      cases h5 : (ownF rs l[k].fIn).isSome <;> cases h6 : (ownF rs l[k].fOut).isSome <;> simp_all
    · have hown : owned rs l[k] = true := by
        unfold owned
        cases h5 : (ownF rs l[k].fIn).isSome <;> cases h6 : (ownF rs l[k].fOut).isSome <;> simp_all
      have hs := hok _ (List.getElem_mem hk)
      unfold sOk at hs
      have hI1 : I64 (cellOf rs l[k]).fSamples := by
        show IntKind.i64.min ≤ (1 : Int) ∧ (1 : Int) ≤ IntKind.i64.max
        decide
      have hI2 : I64 (cellOf rs l[k]).fBytes := by
        show IntKind.i64.min ≤ l[k].fBytes ∧ l[k].fBytes ≤ IntKind.i64.max
        have e1 : IntKind.i64.min = -9223372036854775808 := by decide
        have e2 : IntKind.i64.max = 9223372036854775807 := by decide
        omega
      obtain ⟨m', hm', hrel⟩ := rel_put h4 hI1 hI2
      have hlen : m'.length ≤ m.length + 1 := by
        unfold matrix_put at hm'
        cases hm'
        exact mput_len _ _ _ _
      have fin : ∀ m60 : Bool, m60 = !(good rs l[k]) → Tot (jn (fun m63 : Int =>
          (matrix_put m (api_Cell.mk (ownD rs l[k].fIn) (ownD rs l[k].fOut) (1 : Int) l[k].fBytes)).bind fun r65 =>
          (some (.inr (m63, (w64 ((k : Int) + (1 : Int))), r65)) : Option ((Unit ⊕ (Int × List (matrix_pair × api_Cell))) ⊕ (Int × Int × List (matrix_pair × api_Cell))))) (fun j64 => (if m60 = true then j64 (1 : Int) else j64 e)))
          (Stp (fun k (b : Int × List (matrix_pair × api_Cell)) => (b.1, ((k : Nat) : Int), b.2)) (fun k b => (l.take k).all (owned rs) = true ∧ b.1 = errOf ((l.take k).all (good rs)) ∧ b.2.length ≤ k ∧ Rel b.2 (putAll [] ((l.take k).map (cellOf rs)))) (fun x => match x with
      | .inl _ => l.all (owned rs) = false
      | .inr y => l.all (owned rs) = true ∧ y.1 = errOf (l.all (good rs)) ∧ y.2.length ≤ l.length ∧ Rel y.2 (putAll [] (l.map (cellOf rs)))) k) := by
        intro m60 h60
        subst h60
        have go : ∀ e' : Int, e' = errOf ((l.take (k + 1)).all (good rs)) → Tot ((matrix_put m (api_Cell.mk (ownD rs l[k].fIn) (ownD rs l[k].fOut) (1 : Int) l[k].fBytes)).bind fun r65 =>
          (some (.inr (e', (w64 ((k : Int) + (1 : Int))), r65)) : Option ((Unit ⊕ (Int × List (matrix_pair × api_Cell))) ⊕ (Int × Int × List (matrix_pair × api_Cell))))) (Stp (fun k (b : Int × List (matrix_pair × api_Cell)) => (b.1, ((k : Nat) : Int), b.2)) (fun k b => (l.take k).all (owned rs) = true ∧ b.1 = errOf ((l.take k).all (good rs)) ∧ b.2.length ≤ k ∧ Rel b.2 (putAll [] ((l.take k).map (cellOf rs)))) (fun x => match x with
      | .inl _ => l.all (owned rs) = false
      | .inr y => l.all (owned rs) = true ∧ y.1 = errOf (l.all (good rs)) ∧ y.2.length ≤ l.length ∧ Rel y.2 (putAll [] (l.map (cellOf rs)))) k) := by
          intro e' he'
          refine Tot.bindOf hm' (Tot.step (e', m') (by rw [hw]) ⟨?_, he', by simp only; omega, ?_⟩)
          · rw [all_snoc _ hk, h1, hown]; rfl
          · rw [take_snoc hk, List.map_append, List.map_singleton, putAll_snoc]
            exact hrel
        refine Tot.jn (Tot.ite (fun hg => ?_) (fun hg => ?_))
        · refine go 1 ?_
          rw [all_snoc _ hk]
          have : good rs l[k] = false := by simpa using hg
          rw [this]; simp [errOf]
        · refine go e ?_
          rw [all_snoc _ hk, h2]
          have : good rs l[k] = true := by simpa using hg
          rw [this]; simp
      refine Tot.jn (Tot.bindOf (number_eq _) (Tot.ite (fun hg => ?_) (fun hg => ?_)))
      · refine fin true ?_
        have : num (ownD rs l[k].fIn) → False := by simpa using hg
        unfold good
        rw [decide_eq_false this]; rfl
      · refine Tot.bindOf (number_eq _) (fin _ ?_)
        have : num (ownD rs l[k].fIn) := by simpa using hg
        unfold good
        rw [decide_eq_true this]; rfl
  · obtain ⟨e, m⟩ := b
    unfold matrix_Cells_L1
    refine Tot.iteF (by simp) (Tot.last ?_)
    rw [List.take_length] at hb
    exact hb

theorem putL_num (c : api_Cell) (hc : cnum c) : ∀ l : List api_Cell, (∀ x ∈ l, cnum x) → ∀ x ∈ PutL l c, cnum x
  | [], _, x, hx => by
    have : x = c := by simpa [PutL] using hx
    rw [this]; exact hc
  | y :: l, h, x, hx => by
    unfold PutL at hx
    split at hx
    · rcases List.mem_cons.1 hx with rfl | hx
      · exact h _ List.mem_cons_self
      · exact putL_num c hc l (fun z hz => h z (List.mem_cons_of_mem _ hz)) x hx
    · split at hx
      · rcases List.mem_cons.1 hx with rfl | hx
        · exact hc
        · exact h x hx
      · rcases List.mem_cons.1 hx with rfl | hx
        · exact hc
        · exact h x (List.mem_cons_of_mem _ hx)
theorem putAll_num : ∀ (cs l : List api_Cell), (∀ x ∈ l, cnum x) → (∀ x ∈ cs, cnum x) → ∀ x ∈ putAll l cs, cnum x
  | [], _, h, _ => h
  | c :: cs, l, h, hc => putAll_num cs (PutL l c) (putL_num c (hc c List.mem_cons_self) l h) (fun x hx => hc x (List.mem_cons_of_mem _ hx))
theorem good_num {l : List api_Sample} {rs : List api_Rule} (h : l.all (good rs) = true) : ∀ c ∈ l.map (cellOf rs), cnum c := fun c hc => by
  obtain ⟨s, hs, rfl⟩ := List.mem_map.1 hc
  have := List.all_eq_true.1 h s hs
  unfold good at this
  simpa [cnum, cellOf] using this

theorem cells_eq (l : List api_Sample) (rs : List api_Rule) (hl : l.length ≤ 4611686018427387904) (hr : rs.length ≤ 4611686018427387904) : matrix_Cells l rs = some (CellsF l rs) := by
  refine Tot.eq ?_
  unfold matrix_Cells CellsF
  refine Tot.bindT (sample_valid l hl) fun b hb => ?_
  by_cases hok : Ok l ∧ l.length ≤ 1000
  · have : b = true := hb.2 hok
    subst this
    rw [if_pos hok]
    refine Tot.iteF rfl (Tot.bindT (members_tot rs hr) fun p10 hm => Tot.bindT (cells_loop l rs p10 hm hok.2 hok.1.1) fun x hx => ?_)
    cases x with
    | inl u =>
      refine Tot.some ?_
      rw [if_neg (by rw [show l.all (owned rs) = false from hx]; simp)]
    | inr y =>
      obtain ⟨h1, h2, h3, h4⟩ := hx
      rw [if_pos h1]
      simp only
      rw [h2]
      cases hg : l.all (good rs) with
      | false => exact Tot.iteT rfl (Tot.some (by simp [errOf]))
      | true =>
        refine Tot.iteF rfl (Tot.iteF (by simp; omega) (Tot.bindOf (listed_eq h4 (putAll_num _ _ (fun _ h => by cases h) (good_num hg)) (by omega)) (Tot.some (by simp))))
  · have : b = false := by
      cases b with
      | false => rfl
      | true => exact (hok (hb.1 rfl)).elim
    subst this
    rw [if_neg hok]
    exact Tot.iteT rfl (Tot.some rfl)

theorem ref_loop0 (l : List api_Sample) (rs : List api_Rule) (hl : l.length ≤ 1000) (hr : rs.length ≤ 4611686018427387904) :
    Tot (loop (exchangepointref38_Cells_L0 l rs) ((0 : Int), (0 : Int))) (fun x => match x with
      | .inl _ => l.all (owned rs) = false
      | .inr y => l.all (owned rs) = true ∧ y = errOf (l.all (good rs))) := by
  refine Tot.rng l.length (fun k (b : Int) => (b, ((k : Nat) : Int)))
    (fun k b => (l.take k).all (owned rs) = true ∧ b = errOf ((l.take k).all (good rs))) _ (0 : Int) rfl ⟨rfl, rfl⟩ (fun k e hk hb => ?_) (fun b hb => ?_)
  · obtain ⟨h1, h2⟩ := hb
    unfold exchangepointref38_Cells_L0
    refine Tot.iteT (by simpa using hk) (Tot.bindIdx k rfl hk (Tot.bindOf (owner_eq rs _ hr) (Tot.bindOf (owner_eq rs _ hr) ?_)))
    have hw : w64 ((k : Int) + 1) = ((k + 1 : Nat) : Int) := by rw [w64_id (by omega) (by omega)]; rfl
    refine Tot.ite (fun ho => ?_) (fun ho => ?_)
    · refine Tot.stop (all_of_take hk ?_)
      unfold owned
      cases h5 : (ownF rs l[k].fIn).isSome <;> cases h6 : (ownF rs l[k].fOut).isSome <;> simp_all
    · have hown : owned rs l[k] = true := by
        unfold owned
        cases h5 : (ownF rs l[k].fIn).isSome <;> cases h6 : (ownF rs l[k].fOut).isSome <;> simp_all
      refine Tot.jnR (fun m51 : Bool => m51 = !(good rs l[k])) (fun j hj => ?_) (fun m51 hm => ?_)
      · refine Tot.bindOf (asn_eq _) (Tot.ite (fun hg => ?_) (fun hg => ?_))
        · refine hj true ?_
          have : num (ownD rs l[k].fIn) → False := by simpa using hg
          unfold good
          rw [decide_eq_false this]; rfl
        · refine Tot.bindOf (asn_eq _) (hj _ ?_)
          have : num (ownD rs l[k].fIn) := by simpa using hg
          unfold good
          rw [decide_eq_true this]; rfl
      · subst hm
        refine Tot.jnR (fun m54 : Int => m54 = errOf ((l.take (k + 1)).all (good rs))) (fun j hj => ?_) (fun m54 hm => ?_)
        · refine Tot.ite (fun hg => ?_) (fun hg => ?_)
          · refine hj 1 ?_
            rw [all_snoc _ hk]
            have : good rs l[k] = false := by simpa using hg
            rw [this]; simp [errOf]
          · refine hj e ?_
            rw [all_snoc _ hk, h2]
            have : good rs l[k] = true := by simpa using hg
            rw [this]; simp
        · exact Tot.step m54 (by rw [hw]) ⟨by rw [all_snoc _ hk, h1, hown]; rfl, hm⟩
  · unfold exchangepointref38_Cells_L0
    refine Tot.iteF (by simp) (Tot.last ?_)
    rw [List.take_length] at hb
    exact hb
theorem ref_loop1 (l : List api_Sample) (rs : List api_Rule) (hl : l.length ≤ 1000) (hr : rs.length ≤ 4611686018427387904) :
    Tot (loop (exchangepointref38_Cells_L1 l rs) (([] : List api_Cell), (0 : Int))) (fun x => x = putAll [] (l.map (cellOf rs))) := by
  refine Tot.rng l.length (fun k (b : List api_Cell) => (b, ((k : Nat) : Int)))
    (fun k b => b = putAll [] ((l.take k).map (cellOf rs))) _ ([] : List api_Cell) rfl rfl (fun k e hk hb => ?_) (fun b hb => ?_)
  · subst hb
    unfold exchangepointref38_Cells_L1
    have hw : w64 ((k : Int) + 1) = ((k + 1 : Nat) : Int) := by rw [w64_id (by omega) (by omega)]; rfl
    refine Tot.iteT (by simpa using hk) (Tot.bindIdx k rfl hk (Tot.bindOf (owner_eq rs _ hr) (Tot.bindOf (owner_eq rs _ hr) ?_)))
    have hlen := putAll_len ((l.take k).map (cellOf rs)) []
    simp only [List.length_nil, List.length_map, List.length_take] at hlen
    refine Tot.bindOf (put_eq _ _ (by show (putAll [] ((l.take k).map (cellOf rs))).length ≤ _; omega)) (Tot.step _ (by rw [hw]) ?_)
    rw [take_snoc hk, List.map_append, List.map_singleton, putAll_snoc]
    rfl
  · unfold exchangepointref38_Cells_L1
    refine Tot.iteF (by simp) (Tot.last ?_)
    rw [List.take_length] at hb
    exact hb
theorem ref_cells (l : List api_Sample) (rs : List api_Rule) (hl : l.length ≤ 4611686018427387904) (hr : rs.length ≤ 4611686018427387904) : exchangepointref38_Cells l rs = some (CellsF l rs) := by
  refine Tot.eq ?_
  unfold exchangepointref38_Cells CellsF
  refine Tot.bindT (ref_valid l hl) fun b hb => ?_
  by_cases hok : Ok l ∧ l.length ≤ 1000
  · have : b = true := hb.2 hok
    subst this
    rw [if_pos hok]
    refine Tot.iteF rfl (Tot.bindT (ref_loop0 l rs hok.2 hr) fun x hx => ?_)
    cases x with
    | inl u =>
      refine Tot.some ?_
      rw [if_neg (by rw [show l.all (owned rs) = false from hx]; simp)]
    | inr y =>
      obtain ⟨h1, h2⟩ := hx
      rw [if_pos h1]
      simp only
      rw [h2]
      cases hg : l.all (good rs) with
      | false => exact Tot.iteT rfl (Tot.some (by simp [errOf]))
      | true =>
        refine Tot.iteF rfl (Tot.bindT (ref_loop1 l rs hok.2 hr) fun z hz => ?_)
        subst hz
        have hlen := putAll_len (l.map (cellOf rs)) []
        simp only [List.length_nil, List.length_map] at hlen
        exact Tot.iteF (by simp; omega) (Tot.some (by simp))
  · have : b = false := by
      cases b with
      | false => rfl
      | true => exact (hok (hb.1 rfl)).elim
    subst this
    rw [if_neg hok]
    exact Tot.iteT rfl (Tot.some rfl)

end Go.Proofs.Ytpdfmjkfplgkfaa
