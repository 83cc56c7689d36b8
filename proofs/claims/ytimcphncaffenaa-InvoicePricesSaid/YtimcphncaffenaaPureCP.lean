/- Chapter 41 in plain Lean: 'InvoicePrices'. -/
import Derived.Test.YtimcphncaffenaaPureC
namespace Go.Proofs.Ytimcphncaffenaa
open Go Go.Vc

theorem prices_loop {m : api_Member} {t : api_Tariff} {l : List api_Series} (b : Bills m t l) (d : exchangepointmill_Deck) {xs : List api_Line} (hL : LinesF t l (srt (IDs m)) = .inr xs) (A B C D : Int) (e : Int) :
    Tot (loop (exchangepointlaw41_InvoicePrices_L0 (m, t, l, d) (⟨A, B, C, xs, D⟩, e)) ((0 : Int), (0 : Int))) (fun r => r = .inr (totF xs)) := by
  obtain ⟨u1, u2, u3, u4, u5⟩ := lines_up (k := (srt (IDs m)).length) b.ports (by rw [List.take_length]; exact hL)
  refine Tot.rng xs.length (fun k (s : Int) => (s, (k : Int))) (fun k s => s = totF (xs.take k)) _ 0 rfl rfl ?_ ?_
  · rintro k _ hk rfl
    unfold exchangepointlaw41_InvoicePrices_L0
    refine Tot.iteT (decide_eq_true (by simp only; omega)) (Tot.bindIdx k rfl hk (Tot.bindOf (price_eq _ _) ?_))
    have hp := lines_price hL _ (List.getElem_mem hk)
    simp only [hp]
    refine Tot.jnR (fun b : Bool => b = false) (fun j hj => ?_) (fun b hb => Tot.iteF hb (Tot.step _ (Prod.ext rfl (cast_succ_w hk (by omega))) (by rw [take_snoc hk, totF_snoc])))
    refine Tot.iteF (by simp) (Tot.ite (fun h0 => ?_) (fun _ => hj _ rfl))
    have h0 := of_decide_eq_true h0
    rw [show w64 ((k : Int) - 1) = ((k - 1 : Nat) : Int) from by rw [w64_id (by omega) (by omega)]; omega]
    refine Tot.bindIdx (k - 1) rfl (show k - 1 < xs.length by omega) (hj _ (decide_eq_false ?_))
    have := sorted_get u1 (show k - 1 < xs.length by omega) hk (by omega)
    omega
  · rintro _ rfl
    unfold exchangepointlaw41_InvoicePrices_L0
    refine Tot.iteF (decide_eq_false (by simp only; omega)) (Tot.last (by rw [List.take_length]))

theorem prices_law (a0 : List Int) (h0 : (∀ y ∈ a0, I64 y) ∧ a0.length ≤ maxLen) (a1 : Int) {p1 : Prop} (_ : p1) : exchangepointlaw41_InvoicePrices a0 a1 = some true := by
  refine Tot.eq ?_
  unfold exchangepointlaw41_InvoicePrices
  refine Tot.bindOf rfl (Tot.bindT (bills_tot _ (new_ok _ (Nat.le_trans h0.2 (by decide)))) ?_)
  rintro ⟨m, t, l, d⟩ ⟨b, _, hd⟩
  have hu := emod_lt' a1 (show (0 : Int) < 100000 by omega)
  refine Tot.bindOf (mod_eq _ _ (by omega) (by omega)) ?_
  generalize a1 % 100000 = u at hu
  simp only at b ⊢
  rw [w64_id (n := u + 1) (by omega) (by omega)]
  refine Tot.bindOf ((price_eq _ _).trans (congrArg some (small_price b hu.1 (by omega)))) ?_
  refine Tot.bindOf ((price_eq _ _).trans (congrArg some (small_price b (by omega) (by omega)))) ?_
  have h2 := b.base; have h3 := b.incl; have h4 := b.rate
  have s1 : u ≤ t.fIncluded → PriceN t u = t.fBase := fun h => by
    unfold PriceN; rw [Int.max_eq_left (by omega)]; omega
  have s2 : t.fIncluded ≤ u → PriceN t (u + 1) = PriceN t u + t.fRate := fun h => by
    unfold PriceN
    rw [Int.max_eq_right (by omega), Int.max_eq_right (by omega), show u + 1 - t.fIncluded = (u - t.fIncluded) + 1 from by omega, Int.mul_add]
    omega
  have s3 : u < t.fIncluded → PriceN t (u + 1) = PriceN t u := fun h => by
    unfold PriceN; rw [Int.max_eq_left (by omega), Int.max_eq_left (by omega)]
  have hP : 0 ≤ PriceN t u ∧ PriceN t u ≤ 1152922604118474752 := (price_w b.tok (by omega)).2
  refine Tot.jnR (fun c : Bool => c = false) (fun j hj => ?_) ?_
  · refine Tot.iteF (by simp) ?_
    refine Tot.iteF ?_ (Tot.iteF ?_ (hj _ ?_))
    · simp only [Bool.and_eq_false_iff, decide_eq_false_iff_not, bne_eq_false_iff_eq]
      by_cases h : u ≤ t.fIncluded
      · exact .inr (s1 h)
      · exact .inl h
    · simp only [Bool.and_eq_false_iff, decide_eq_false_iff_not, bne_eq_false_iff_eq]
      by_cases h : u < t.fIncluded
      · exact .inr (s3 h)
      · exact .inl h
    · simp only [Bool.and_eq_false_iff, decide_eq_false_iff_not, bne_eq_false_iff_eq]
      by_cases h : t.fIncluded ≤ u
      · right
        rw [s2 h, w64_id (by omega) (by omega)]
        omega
      · exact .inl h
  · intro c hc
    refine Tot.iteF hc (Tot.bindOf (make_eq _ _ _ (by have := b.few; omega) b.sers) ?_)
    rcases bills_make b (mo := 9) (by unfold monOk; omega) with h3 | ⟨xs, hL, hM⟩
    · refine Tot.iteT (by rw [h3]; rfl) (Tot.jnR (fun c : Bool => c = true) (fun j hj => ?_) (fun c hc => Tot.some hc))
      exact Tot.iteT (by rw [h3]; rfl) (Tot.bindOf awake_eq (hj _ rfl))
    · rw [hM]
      refine Tot.iteF rfl (Tot.bindT (prices_loop b d hL _ _ _ _ _) ?_)
      rintro _ rfl
      refine Tot.jnR (fun c : Bool => c = true) (fun j hj => ?_) (fun c hc => Tot.some hc)
      refine Tot.iteT ?_ (Tot.bindOf awake_eq (hj _ rfl))
      have hlen : xs.length = m.fPorts.length := by
        have := congrArg List.length (lines_ports hL)
        rw [List.length_map, srt_len] at this
        unfold IDs at this
        rw [List.length_map] at this
        exact this
      simp [hlen]
end Go.Proofs.Ytimcphncaffenaa
