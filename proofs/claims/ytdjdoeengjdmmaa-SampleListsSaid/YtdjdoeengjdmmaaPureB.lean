/- Chapter 37, second part: decks. -/
import Derived.Test.YtdjdoeengjdmmaaPure
namespace Go.Proofs.Ytdjdoeengjdmmaa
open Go Go.Vc

/-- a deck as it is dealt from -/
def DeckOk (d : exchangepointmill_Deck) : Prop := 0 ≤ d.fAt ∧ d.fAt ≤ d.fL.length ∧ d.fL.length ≤ 9223372036854775807
theorem next_eq (d : exchangepointmill_Deck) (hd : DeckOk d) (n : Int) (hn : 0 < n) (hn' : n ≤ 4611686018427387904) : ∃ r d', exchangepointmill_Deck_Next d n = some (r, d') ∧ 0 ≤ r ∧ r < n ∧ DeckOk d' := by
  obtain ⟨h0, h1, h2⟩ := hd
  unfold exchangepointmill_Deck_Next
  by_cases h : (d.fL.length : Int) ≤ d.fAt
  · exact ⟨0, d, ite_of_t (by simpa using h) rfl, by omega, hn, h0, h1, h2⟩
  · obtain ⟨k, hk⟩ : ∃ k : Nat, d.fAt = k := ⟨d.fAt.toNat, by omega⟩
    have hlt : k < d.fL.length := by omega
    obtain ⟨m0, m1⟩ := emod_lt' d.fL[k] hn
    refine ⟨d.fL[k] % n, ⟨d.fL, d.fAt + 1⟩, ?_, m0, m1, by simp only; omega, by simp only; omega, h2⟩
    refine ite_of_f (by simpa using h) ?_
    rw [w64_id (n := d.fAt + 1) (by omega) (by omega), w64_id (n := d.fAt + 1 - 1) (by omega) (by omega), show d.fAt + 1 - 1 = (k : Int) from by omega]
    refine bind_of (idx_get (List.getElem?_eq_getElem hlt)) ?_
    exact bind_of (mod_eq _ n hn hn') rfl

def sOk (s : api_Sample) : Prop := (0 ≤ s.fTick ∧ s.fTick ≤ 1073741824) ∧ (0 ≤ s.fSeq ∧ s.fSeq ≤ 1099511627776) ∧ (0 ≤ s.fPool ∧ s.fPool ≤ 1099511627776) ∧ (1 ≤ s.fIn ∧ s.fIn ≤ 999) ∧ (1 ≤ s.fOut ∧ s.fOut ≤ 999) ∧ (0 ≤ s.fBytes ∧ s.fBytes ≤ 65535)
def after (p s : api_Sample) : Prop := p.fSeq < s.fSeq ∧ s.fSeq - p.fSeq ≤ s.fPool - p.fPool ∧ p.fTick ≤ s.fTick
instance (s : api_Sample) : Decidable (sOk s) := by unfold sOk; infer_instance
instance (p s : api_Sample) : Decidable (after p s) := by unfold after; infer_instance

theorem single_eq (s : api_Sample) : sample_single s = some (decide (sOk s)) := by
  unfold sample_single sample_single_1 jn sOk
  simp only [Option.bind_some]
  have e : ∀ x lo hi : Int, (decide (lo ≤ x) && decide (x ≤ hi)) = decide (lo ≤ x ∧ x ≤ hi) := fun x lo hi => by simp
  simp only [e]
  by_cases c1 : 0 ≤ s.fTick ∧ s.fTick ≤ 1073741824
  · by_cases c2 : 0 ≤ s.fSeq ∧ s.fSeq ≤ 1099511627776
    · by_cases c3 : 0 ≤ s.fPool ∧ s.fPool ≤ 1099511627776
      · by_cases c4 : 1 ≤ s.fIn ∧ s.fIn ≤ 999
        · by_cases c5 : 1 ≤ s.fOut ∧ s.fOut ≤ 999
          · simp [c1, c2, c3, c4, c5]
          · simp [c1, c2, c3, c4, c5]
        · simp [c1, c2, c3, c4]
      · simp [c1, c2, c3]
    · simp [c1, c2]
  · simp [c1]

theorem same_list (l : List api_Sample) (hl : l.length ≤ 4611686018427387904) : exchangepointref37_Same l l = some true := by
  unfold exchangepointref37_Same
  refine ite_of_f (by simp) ?_
  obtain ⟨x, hx, h⟩ := loop_meas (tb := exchangepointref37_Same_L0 l l) (fun s => ∃ k : Nat, k ≤ l.length ∧ s = (k : Int)) (fun s => l.length - s.toNat) (fun x => x = .inr ()) (by
    rintro s ⟨k, hk, rfl⟩
    unfold exchangepointref37_Same_L0
    by_cases hlt : k < l.length
    · right
      have hg := List.getElem?_eq_getElem hlt
      refine ⟨((k + 1 : Nat) : Int), ⟨k + 1, hlt, rfl⟩, by simp; omega, ?_⟩
      refine ite_of_t (by simpa using hlt) ?_
      refine bind_of (idx_get hg) ?_
      refine bind_of (idx_get hg) ?_
      refine ite_of_f (by simp) ?_
      rw [w64_id (by omega) (by omega)]
      rfl
    · left
      have : k = l.length := by omega
      subst this
      exact ⟨_, rfl, ite_of_f (by simp) rfl⟩) (s := (0 : Int)) ⟨0, Nat.zero_le _, rfl⟩
  subst hx
  exact bind_of h rfl
end Go.Proofs.Ytdjdoeengjdmmaa
