/- Tables in plain Lean: the example that keeps the laws awake. -/
import Derived.Test.YtbkhigkknhlmhaaPureK
namespace Go.Proofs.Ytbkhigkknhlmhaa
open Go Go.Vc

/-- a length that no entry has is nothing to join -/
theorem j_skip {n : Int} {m : PM} (hd : dom m) (hn : 1 ≤ n) (h : ∀ Q, pV Q → Q.fLen = n - 1 → merged m Q = none) : J n m = m := by
  have e : JP n (fun _ => True) m = JP n (fun _ => False) m := jp_congr hn fun Q h1 h2 h3 => by rw [h Q h1 h2] at h3; cases h3
  unfold J
  rw [e, jp_nil hd]
theorem jj_skip {m : PM} (hd : dom m) : ∀ k : Nat, (∀ Q, pV Q → Q.fLen < k → merged m Q = none) → JJ k m = m
  | 0, _ => rfl
  | k + 1, h => by
    show JJ k (J ((k + 1 : Nat) : Int) m) = m
    rw [j_skip hd (by omega) fun Q h1 h2 => h Q h1 (by omega)]
    exact jj_skip hd k fun Q h1 h2 => h Q h1 (by omega)
theorem jj_from {m : PM} (hd : dom m) (k : Nat) : ∀ j : Nat, (∀ Q, pV Q → k ≤ Q.fLen → merged m Q = none) → JJ (k + j) m = JJ k m
  | 0, _ => rfl
  | j + 1, h => by
    show JJ (k + j) (J ((k + j + 1 : Nat) : Int) m) = _
    rw [j_skip hd (by omega) fun Q h1 h2 => h Q h1 (by omega)]
    exact jj_from hd k j h
def exP : api_Prefix := api_Prefix.mk (api_Addr.mk false 0 167772160) 24
def exA : api_Entry := api_Entry.mk (api_Prefix.mk (api_Addr.mk false 0 167772160) 25) 7
def exB : api_Entry := api_Entry.mk (api_Prefix.mk (api_Addr.mk false 0 167772288) 25) 7
theorem exP_V : pV exP := ⟨⟨⟨⟨by decide, by decide⟩, by decide, by decide⟩, .inr ⟨rfl, by decide⟩⟩, by decide, by decide, by decide⟩
theorem exA_V : pV exA.fPrefix := ⟨⟨⟨⟨by decide, by decide⟩, by decide, by decide⟩, .inr ⟨rfl, by decide⟩⟩, by decide, by decide, by decide⟩
theorem exB_V : pV exB.fPrefix := ⟨⟨⟨⟨by decide, by decide⟩, by decide, by decide⟩, .inr ⟨rfl, by decide⟩⟩, by decide, by decide, by decide⟩
theorem ex_lo : loH exP = exA.fPrefix := rfl
theorem ex_hi : hiH exP = exB.fPrefix := by decide
theorem ex_V : TV [exA, exB] := ⟨fun e he => by
    rcases List.mem_cons.1 he with rfl | he
    · exact exA_V
    · rw [List.mem_singleton.1 he]; exact exB_V, by
    refine List.pairwise_cons.2 ⟨fun e he => ?_, List.pairwise_singleton _ _⟩
    rw [List.mem_singleton.1 he]
    decide⟩
theorem ex1_V : TV [api_Entry.mk exP 7] := ⟨fun e he => by rw [List.mem_singleton.1 he]; exact exP_V, List.pairwise_singleton _ _⟩
theorem ex_get {q : api_Prefix} {v : Int} : tget [exA, exB] q = some v ↔ v = 7 ∧ (q = loH exP ∨ q = hiH exP) := by
  rw [tget_iff ex_V, ex_lo, ex_hi]
  simp only [List.mem_cons, List.not_mem_nil, or_false, exA, exB, api_Entry.mk.injEq]
  constructor
  · rintro (⟨h1, h2⟩ | ⟨h1, h2⟩)
    · exact ⟨h2, .inl h1⟩
    · exact ⟨h2, .inr h1⟩
  · rintro ⟨h1, h2 | h2⟩
    · exact .inl ⟨h2, h1⟩
    · exact .inr ⟨h2, h1⟩
theorem ex_merged {Q : api_Prefix} (hQ : pV Q) (hl : Q.fLen < wid Q.fAddr.fV6) {v : Int} (h : merged (tget [exA, exB]) Q = some v) : Q = exP := by
  have h1 := (ex_get.1 (merged_iff.1 h).1).2
  have hp := halves_par exP_V (by decide)
  rcases h1 with e | e
  · rw [← (halves_par hQ hl).1, e, hp.1]
  · rw [← (halves_par hQ hl).1, e, hp.2]
theorem merged_len {m : PM} (hd : dom m) {Q : api_Prefix} {v : Int} (h : merged m Q = some v) : Q.fLen < wid Q.fAddr.fV6 := by
  have := (hd _ _ (merged_iff.1 h).1).len1
  have hl3 : (loH Q).fLen = Q.fLen + 1 := rfl
  have hl4 : (loH Q).fAddr.fV6 = Q.fAddr.fV6 := rfl
  rw [hl3, hl4] at this
  omega
theorem ex_levels : JJ 128 (tget [exA, exB]) = tget [api_Entry.mk exP 7] := by
  have hd := tget_dom ex_V
  have none_of : ∀ Q, pV Q → Q ≠ exP → merged (tget [exA, exB]) Q = none := fun Q hQ hne => by
    cases e : merged (tget [exA, exB]) Q with
    | none => rfl
    | some v => exact (hne (ex_merged hQ (merged_len hd e) e)).elim
  have hm : merged (tget [exA, exB]) exP = some 7 := merged_iff.2 ⟨ex_get.2 ⟨rfl, .inl rfl⟩, ex_get.2 ⟨rfl, .inr rfl⟩⟩
  rw [show (128 : Nat) = 25 + 103 from rfl, jj_from hd 25 103 fun Q hQ hl => none_of Q hQ fun e => by rw [e] at hl; exact absurd hl (by decide)]
  show JJ 24 (J ((24 + 1 : Nat) : Int) (tget [exA, exB])) = _
  have e1 : J ((24 + 1 : Nat) : Int) (tget [exA, exB]) = tget [api_Entry.mk exP 7] := by
    have j1 := jp_join (n := ((24 + 1 : Nat) : Int)) (D := fun _ => False) (m := tget [exA, exB]) (m' := tget [api_Entry.mk exP 7]) (P := exP) (v := 7) exP_V (by decide) (by decide) hm (fun q => by
      rw [jp_nil hd]
      show (if exP = q then some 7 else none) = _
      by_cases c1 : exP = q
      · rw [if_pos c1, if_pos c1]
      · rw [if_neg c1, if_neg c1]
        by_cases c2 : hiH exP = q
        · rw [if_pos c2]
        · rw [if_neg c2]
          by_cases c3 : loH exP = q
          · rw [if_pos c3]
          · rw [if_neg c3]
            cases e : tget [exA, exB] q with
            | none => rfl
            | some v =>
              rcases (ex_get.1 e).2 with e | e
              · exact (c3 e.symm).elim
              · exact (c2 e.symm).elim)
    rw [j1]
    unfold J
    refine jp_congr (by decide) fun Q hQ hn hs => ⟨fun _ => .inr ?_, fun _ => trivial⟩
    obtain ⟨v, hv⟩ := Option.isSome_iff_exists.1 hs
    exact ex_merged hQ (merged_len hd hv) hv
  rw [e1]
  refine jj_skip (tget_dom ex1_V) 24 fun Q hQ hl => ?_
  cases e : merged (tget [api_Entry.mk exP 7]) Q with
  | none => rfl
  | some v =>
    obtain ⟨g1, g2⟩ := merged_iff.1 e
    have k1 := congrArg api_Entry.fPrefix (List.mem_singleton.1 (tget_some g1))
    have k2 := congrArg api_Entry.fPrefix (List.mem_singleton.1 (tget_some g2))
    exact (halves_ne hQ (merged_len (tget_dom ex1_V) e) (k1.trans k2.symm)).elim
theorem ex_look : LookF [exA, exB] (api_Addr.mk false 0 167772290) = some exB := by
  refine (look_iff ex_V).2 ⟨by simp, contF_iff.2 ⟨rfl, ⟨by decide, by decide⟩, by decide⟩, fun x hx _ => ?_⟩
  rcases List.mem_cons.1 hx with rfl | hx
  · decide
  · rw [List.mem_singleton.1 hx]; decide
theorem awake_eq : exchangepointlaw03_awake = some true := by
  obtain ⟨r, r1, r2, r3, r4, r5⟩ := agg_tot ex_V (by decide)
  have hr : r = [api_Entry.mk exP 7] := tget_ext r1 ex1_V fun q => by rw [r3, ex_levels]
  have hk : AggL [api_Entry.mk exP 7] = [api_Entry.mk exP 7] := by
    unfold AggL
    refine List.filter_eq_self.2 fun x hx => keepA_nil ?_
    rw [List.mem_singleton.1 hx]
    refine List.filter_eq_nil_iff.2 fun y hy => ?_
    rw [List.mem_singleton.1 hy]
    have : peq exP exP = true := peq_iff.2 rfl
    simp [this]
  rw [hr, hk] at r4
  unfold exchangepointlaw03_awake
  refine bind_of r4 (bind_of (look_eq ex_V (a := api_Addr.mk false 0 167772290) ⟨⟨by decide, by decide⟩, by decide, by decide⟩ (by decide)) ?_)
  rw [ex_look]
  rfl
end Go.Proofs.Ytbkhigkknhlmhaa
