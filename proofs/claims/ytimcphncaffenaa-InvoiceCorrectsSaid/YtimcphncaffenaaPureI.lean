/- Chapter 41 in plain Lean: 'InvoiceCorrects'. -/
import Derived.Test.YtimcphncaffenaaPureG
namespace Go.Proofs.Ytimcphncaffenaa
open Go Go.Vc

theorem sumF_small (l : List api_Invoice) : (SumF l).1.fLines.length ≤ 8 := by
  unfold SumF
  split
  · simp
  · split
    · simp
    · split
      · simp
      · split
        · rename_i h; exact h.few
        · simp
theorem correctF_cons {old : List api_Invoice} {m : api_Member} {t : api_Tariff} {l : List api_Series} (h : (CorrectF old m t l).2 = 0) : ConsP (CorrectF old m t l).1 := by
  unfold CorrectF at h ⊢
  split at h
  · rename_i h1; exact absurd h h1
  · split at h
    · cases h
    · split at h
      · rename_i h1; exact absurd h h1
      · split at h
        · cases h
        · split at h
          · rename_i h1 h2 h3 h4 h5
            rw [if_neg h1, if_neg h2, if_neg h3, if_neg h4, if_pos h5]
            exact h5
          · cases h
theorem correctF_small (old : List api_Invoice) (m : api_Member) (t : api_Tariff) (l : List api_Series) : (CorrectF old m t l).1.fLines.length ≤ 8 := by
  by_cases h : (CorrectF old m t l).2 = 0
  · exact (correctF_cons h).few
  · have : (CorrectF old m t l).1 = zi := by
      unfold CorrectF at h ⊢
      split
      · rfl
      · split
        · rfl
        · split
          · rfl
          · split
            · rfl
            · split
              · rename_i h1 h2 h3 h4 h5
                rw [if_neg h1, if_neg h2, if_neg h3, if_neg h4, if_pos h5] at h
                exact absurd rfl h
              · rfl
    rw [this]; simp
theorem corrects_L2 (r21 : api_Member × api_Tariff × List api_Series × exchangepointmill_Deck) (r24 : Int) (r32 : api_Series × Int) (x : List api_Invoice) (d : exchangepointmill_Deck) (hd : DeckOk d)
    (hm : r21.1.fPorts.length ≤ 1000000) (h1 : SersOk r21.2.2.1) (h2 : SersOk (((r21.2.2.1.set r24.toNat r32.1).drop 0).take r21.2.2.1.length)) :
    Tot (loop (exchangepointlaw41_InvoiceCorrects_L2 r21 r24 r32 x) ((0 : Int), d)) (fun r => match r with | .inl _ => False | .inr d => DeckOk d) := by
  refine Tot.rng 2 (fun k (b : exchangepointmill_Deck) => ((k : Int), b)) (fun _ b => DeckOk b) _ d rfl hd ?_ ?_
  · intro k d hk hd
    unfold exchangepointlaw41_InvoiceCorrects_L2
    have hk' : k < ([r21.2.2.1, (((r21.2.2.1.set r24.toNat r32.1).drop 0).take r21.2.2.1.length)] : List (List api_Series)).length := by simp only [List.length_cons, List.length_nil]; omega
    refine Tot.iteT (decide_eq_true (by simp only [List.length_cons, List.length_nil]; omega)) (Tot.bindIdx k rfl hk' ?_)
    have hy : SersOk ([r21.2.2.1, (((r21.2.2.1.set r24.toNat r32.1).drop 0).take r21.2.2.1.length)] : List (List api_Series))[k] := by
      have hall : ∀ y ∈ ([r21.2.2.1, (((r21.2.2.1.set r24.toNat r32.1).drop 0).take r21.2.2.1.length)] : List (List api_Series)), SersOk y := by
        intro y hy
        rcases List.mem_cons.1 hy with rfl | hy
        · exact h1
        · rw [List.mem_singleton.1 hy]; exact h2
      exact hall _ (List.getElem_mem hk')
    generalize ([r21.2.2.1, (((r21.2.2.1.set r24.toNat r32.1).drop 0).take r21.2.2.1.length)] : List (List api_Series))[k] = y at hy
    refine Tot.bindOf (correct_eq _ _ _ hm hy) (Tot.bindOf (correct_ref _ _ _ hm hy) ?_)
    refine Tot.jnR (fun b : Bool => b = false) (fun j hj => ?_) (fun b hb => Tot.iteF hb ?_)
    · exact Tot.iteF (by simp) (Tot.bindOf (same_refl _ (Nat.le_trans (correctF_small _ _ _ _) (by omega))) (hj _ rfl))
    · refine Tot.bindT (next_tot d hd 2 (by omega) (by omega)) ?_
      rintro ⟨q, d1⟩ ⟨q1, q2, hd1⟩
      simp only at q1 q2 ⊢
      refine Tot.bindT (member_tot d1 hd1 _) ?_
      rintro ⟨m', d2⟩ ⟨_, _, _, m4, hd2⟩
      simp only at m4 ⊢
      refine Tot.bindOf (correct_eq _ _ _ (by omega) hy) ?_
      refine Tot.jnR (fun b : Bool => b = false) (fun j hj => ?_) (fun b hb => Tot.iteF hb (Tot.step d2 (Prod.ext (cast_succ_w hk (by omega)) rfl) hd2))
      refine Tot.ite (fun h => ?_) (fun _ => hj _ rfl)
      refine Tot.bindT (cons_ref _) fun b hb => hj _ ?_
      rw [hb.2 (correctF_cons (by simpa using h))]; rfl
  · intro d hd
    unfold exchangepointlaw41_InvoiceCorrects_L2
    exact Tot.iteF (decide_eq_false (by simp only [List.length_cons, List.length_nil]; omega)) (Tot.last hd)
theorem corrects_L1 (a0 : List api_Invoice) (r21 : api_Member × api_Tariff × List api_Series × exchangepointmill_Deck) (r22 : api_Invoice × Int) (r24 : Int) (r32 : api_Series × Int) (r35 : api_Invoice × Int) (bad : api_Invoice) (d : exchangepointmill_Deck) (hd : DeckOk d)
    (hm : r21.1.fPorts.length ≤ 1000000) (h1 : SersOk r21.2.2.1) (h2 : SersOk (((r21.2.2.1.set r24.toNat r32.1).drop 0).take r21.2.2.1.length)) :
    Tot (loop (exchangepointlaw41_InvoiceCorrects_L1 a0 r21 r22 r24 r32 r35 bad) ((0 : Int), d)) (fun r => r = .inr ()) := by
  refine Tot.rng 5 (fun k (b : exchangepointmill_Deck) => ((k : Int), b)) (fun _ b => DeckOk b) _ d rfl hd ?_ ?_
  · intro k d hk hd
    unfold exchangepointlaw41_InvoiceCorrects_L1
    refine Tot.iteT (decide_eq_true (by simp only [List.length_cons, List.length_nil]; omega)) (Tot.bindIdx k rfl (by simp only [List.length_cons, List.length_nil]; omega) ?_)
    refine Tot.bindOf (sum_eq _) (Tot.bindOf (sum_ref _) ?_)
    refine Tot.jnR (fun b : Bool => b = false) (fun j hj => ?_) (fun b hb => Tot.iteF hb ?_)
    · exact Tot.iteF (by simp) (Tot.bindOf (same_refl _ (Nat.le_trans (sumF_small _) (by omega))) (hj _ rfl))
    · refine Tot.bindT (corrects_L2 r21 r24 r32 _ d hd hm h1 h2) ?_
      rintro (u | d') hx
      · exact hx.elim
      · exact Tot.step d' (Prod.ext (cast_succ_w hk (by omega)) rfl) hx
  · intro d hd
    unfold exchangepointlaw41_InvoiceCorrects_L1
    exact Tot.iteF (decide_eq_false (by simp only [List.length_cons, List.length_nil]; omega)) (Tot.last rfl)
theorem corrects_law (a0 : List api_Invoice) {p0 : Prop} (_ : p0) (a1 : List Int) (h1 : (∀ y ∈ a1, I64 y) ∧ a1.length ≤ maxLen) (a2 : Int) {p2 : Prop} (_ : p2) (a3 : Int) {p3 : Prop} (_ : p3) (a4 : Int) {p4 : Prop} (_ : p4) :
    exchangepointlaw41_InvoiceCorrects a0 a1 a2 a3 a4 = some true := by
  refine Tot.eq ?_
  unfold exchangepointlaw41_InvoiceCorrects
  refine Tot.ite (fun _ => Tot.bindOf awake_eq (Tot.some rfl)) (fun hc => ?_)
  have hc : a0.length ≤ 30 := by have := of_decide_eq_false hc; omega
  refine Tot.bindRng a0.length (fun k (_ : Unit) => (k : Int)) (fun k _ => True) (fun x => match x with | .inl b => b = true | .inr _ => True) () rfl trivial ?_ ?_ ?_
  · intro k _ hk _
    unfold exchangepointlaw41_InvoiceCorrects_L0
    exact Tot.iteT (decide_eq_true (by omega)) (Tot.bindIdx k rfl hk (Tot.ite (fun _ => Tot.bindOf awake_eq (Tot.stop rfl)) (fun hd => Tot.step () (cast_succ_w hk (by omega)) trivial)))
  · intro _ _
    unfold exchangepointlaw41_InvoiceCorrects_L0
    exact Tot.iteF (decide_eq_false (by omega)) (Tot.last trivial)
  · rintro (b | u) hx
    · obtain rfl := hx; exact Tot.some rfl
    · refine Tot.bindOf rfl (Tot.bindT (bills_tot _ (new_ok _ (Nat.le_trans h1.2 (by decide)))) ?_)
      rintro ⟨m, t, l, d⟩ ⟨b, h31, hd⟩
      simp only at b h31 hd ⊢
      have hlen := b.len; have hsome := b.some; have hfew := b.few
      refine Tot.bindOf (make_ref _ _ _ (by omega) b.sers) (Tot.chk (limB (by omega)) ?_)
      have hi := emod_lt' a3 (show (0 : Int) < (l.length : Int) by omega)
      refine Tot.bindOf (mod_eq _ _ (show (0 : Int) < (l.length : Int) by omega) (show (l.length : Int) ≤ 4611686018427387904 by omega)) ?_
      generalize a3 % (l.length : Int) = i at hi
      obtain ⟨i, rfl⟩ : ∃ q : Nat, i = (q : Int) := ⟨i.toNat, by omega⟩
      have hil : i < l.length := by omega
      have hf := b.full _ (List.getElem_mem hil)
      have hs := h31 _ (List.getElem_mem hil)
      refine Tot.bindIdx i rfl hil (Tot.bindIdx i rfl hil (Tot.bindIdx i rfl hil (Tot.bindIdx i rfl hil ?_)))
      rw [w64_id (n := (l[i].fIn.length : Int) + 1) (by omega) (by omega)]
      have hq := emod_lt' a4 (show (0 : Int) < (l[i].fIn.length : Int) + 1 by omega)
      refine Tot.bindOf (mod_eq _ _ (show (0 : Int) < (l[i].fIn.length : Int) + 1 by omega) (show (l[i].fIn.length : Int) + 1 ≤ 4611686018427387904 by omega)) ?_
      refine Tot.bindT (next_tot d hd _ (by omega) (by omega)) ?_
      rintro ⟨x, dx⟩ ⟨x1, x2, hdx⟩
      refine Tot.bindT (next_tot dx hdx _ (by omega) (by omega)) ?_
      rintro ⟨y, dy⟩ ⟨y1, y2, hdy⟩
      simp only at x1 x2 y1 y2 ⊢
      refine Tot.bindOf (put_ref _ (by omega) _ _ _) (Tot.bindIdx i rfl hil (Tot.bindIdx i rfl hil ?_))
      have hps := PutF_small l[i] (a4 % ((l[i].fIn.length : Int) + 1)) x y
      generalize PutF l[i] (a4 % ((l[i].fIn.length : Int) + 1)) x y = pu at hps
      have h2 : SersOk (((l.set ((i : Nat) : Int).toNat pu.1).drop 0).take l.length) := by
        refine ⟨by rw [List.length_take, List.length_drop, List.length_set]; omega, fun s hs' => ?_⟩
        have hs' := List.mem_of_mem_take hs'
        rw [List.drop_zero] at hs'
        rcases List.mem_or_eq_of_mem_set hs' with h | h
        · exact b.sers.2 s h
        · rw [h]; omega
      refine Tot.bindOf (correct_ref _ _ _ (by omega) h2) (Tot.bindOf (mod_eq _ _ (by omega) (by omega)) ?_)
      have hcs := correctF_small [(MakeF m 3 t l).1] m t (((l.set ((i : Nat) : Int).toNat pu.1).drop 0).take l.length)
      refine Tot.jnR (fun _ : api_Invoice => True) (fun j hj => ?_) (fun bad _ => ?_)
      · refine Tot.ite (fun _ => Tot.bindOf (mod_eq _ _ (by omega) (by omega)) (hj _ trivial)) (fun _ => ?_)
        refine Tot.ite (fun _ => hj _ trivial) (fun _ => Tot.ite (fun _ => hj _ trivial) (fun _ => Tot.ite (fun _ => ?_) (fun _ => hj _ trivial)))
        exact Tot.chk (limB (by omega)) (Tot.bindOf (mod_eq _ _ (by omega) (by omega)) (Tot.chk (limB (by simp only [List.length_append, List.length_cons, List.length_nil]; omega)) (hj _ trivial)))
      · refine Tot.bindT (corrects_L1 _ (m, t, l, d) _ _ _ _ _ _ hdy (show m.fPorts.length ≤ 1000000 by omega) b.sers h2) ?_
        rintro _ rfl
        exact Tot.bindOf awake_eq (Tot.some rfl)
end Go.Proofs.Ytimcphncaffenaa
