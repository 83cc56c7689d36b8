/- Chapter 38 in plain Lean: lists of samples; members of ports -/
import Derived.Test.YtpdfmjkfplgkfaaPureE
import Derived.Test.YtpdfmjkfplgkfaaVcMP
namespace Go.Proofs.Ytpdfmjkfplgkfaa
open Go Go.Vc

/-- a deck as it is dealt from -/
def DeckOk (d : exchangepointmill_Deck) : Prop := 0 ≤ d.fAt ∧ d.fAt ≤ d.fL.length ∧ d.fL.length ≤ 9223372036854775807
theorem next_eq (d : exchangepointmill_Deck) (hd : DeckOk d) (n : Int) (hn : 0 < n) (hn' : n ≤ 4611686018427387904) : ∃ r d', exchangepointmill_Deck_Next d n = some (r, d') ∧ 0 ≤ r ∧ r < n ∧ DeckOk d' := by
  obtain ⟨h0, h1, h2⟩ := hd
  unfold exchangepointmill_Deck_Next
  by_cases h : (d.fL.length : Int) ≤ d.fAt
  · exact ⟨0, d, ite_of_t (by simpa using h) rfl, by omega, hn, h0, h1, h2⟩
  · obtain ⟨k, hk⟩ : ∃ k : Nat, d.fAt = k := ⟨d.fAt.toNat, by omega⟩
    have hlt : k < d.fL.length := by omega
    obtain ⟨m0, m1⟩ := emod_lt' d.fL[k] hn
    refine ⟨d.fL[k] % n, ⟨d.fL, d.fAt + 1⟩, ?_, m0, m1, by simp only; omega, by simp only; omega, h2⟩
    refine ite_of_f (by simpa using h) ?_
    rw [w64_id (n := d.fAt + 1) (by omega) (by omega), w64_id (n := d.fAt + 1 - 1) (by omega) (by omega), show d.fAt + 1 - 1 = (k : Int) from by omega]
    refine bind_of (idx_get (List.getElem?_eq_getElem hlt)) ?_
    exact bind_of (mod_eq _ n hn hn') rfl

def sOk (s : api_Sample) : Prop := (0 ≤ s.fTick ∧ s.fTick ≤ 1073741824) ∧ (0 ≤ s.fSeq ∧ s.fSeq ≤ 1099511627776) ∧ (0 ≤ s.fPool ∧ s.fPool ≤ 1099511627776) ∧ (1 ≤ s.fIn ∧ s.fIn ≤ 999) ∧ (1 ≤ s.fOut ∧ s.fOut ≤ 999) ∧ (0 ≤ s.fBytes ∧ s.fBytes ≤ 65535)
def after (p s : api_Sample) : Prop := p.fSeq < s.fSeq ∧ s.fSeq - p.fSeq ≤ s.fPool - p.fPool ∧ p.fTick ≤ s.fTick
instance (s : api_Sample) : Decidable (sOk s) := by unfold sOk; infer_instance
instance (p s : api_Sample) : Decidable (after p s) := by unfold after; infer_instance

theorem single_eq (s : api_Sample) : sample_single s = some (decide (sOk s)) := by
  unfold sample_single sample_single_1 jn sOk
  simp only [Option.bind_some]
  have e : ∀ x lo hi : Int, (decide (lo ≤ x) && decide (x ≤ hi)) = decide (lo ≤ x ∧ x ≤ hi) := fun x lo hi => by simp
  simp only [e]
  by_cases c1 : 0 ≤ s.fTick ∧ s.fTick ≤ 1073741824
  · by_cases c2 : 0 ≤ s.fSeq ∧ s.fSeq ≤ 1099511627776
    · by_cases c3 : 0 ≤ s.fPool ∧ s.fPool ≤ 1099511627776
      · by_cases c4 : 1 ≤ s.fIn ∧ s.fIn ≤ 999
        · by_cases c5 : 1 ≤ s.fOut ∧ s.fOut ≤ 999
          · simp [c1, c2, c3, c4, c5]
          · simp [c1, c2, c3, c4, c5]
        · simp [c1, c2, c3, c4]
      · simp [c1, c2, c3]
    · simp [c1, c2]
  · simp [c1]


def Ok (l : List api_Sample) : Prop := (∀ s ∈ l, sOk s) ∧ l.Pairwise after
theorem ok_nil : Ok [] := ⟨fun _ h => (by cases h), .nil⟩
theorem after_trans {a b c : api_Sample} (h : after a b) (k : after b c) : after a c := by unfold after at *; omega
theorem prev_mem {α : Type} {l : List α} {m : Nat} (h : m < l.length) : l[m] ∈ l.take (m + 1) := by
  rw [take_succ_get (List.getElem?_eq_getElem h)]; exact List.mem_append_right _ (List.mem_singleton.2 rfl)

theorem ok_take_succ {l : List api_Sample} {k : Nat} (hk : k < l.length) (h : Ok (l.take k)) (hs : sOk l[k]) (hp : ∀ m (_ : k = m + 1), after (l[m]'(by omega)) l[k]) : Ok (l.take (k + 1)) := by
  rw [take_succ_get (List.getElem?_eq_getElem hk)]
  refine ⟨fun s hm => ?_, ?_⟩
  · rcases List.mem_append.1 hm with hm | hm
    · exact h.1 s hm
    · rw [List.mem_singleton.1 hm]; exact hs
  · rw [List.pairwise_append]
    refine ⟨h.2, List.pairwise_singleton _ _, fun x hx y hy => ?_⟩
    rw [List.mem_singleton.1 hy]
    cases k with
    | zero => simp at hx
    | succ m =>
      have hm := hp m rfl
      rw [take_succ_get (List.getElem?_eq_getElem (by omega : m < l.length))] at hx
      rcases List.mem_append.1 hx with hx | hx
      · have := h.2
        rw [take_succ_get (List.getElem?_eq_getElem (by omega : m < l.length)), List.pairwise_append] at this
        exact after_trans (this.2.2 x hx l[m] (List.mem_singleton.2 rfl)) hm
      · rw [List.mem_singleton.1 hx]; exact hm

theorem sample_valid (l : List api_Sample) (hl : l.length ≤ 4611686018427387904) : Tot (sample_Valid l) (fun b => b = true ↔ Ok l ∧ l.length ≤ 1000) := by
  unfold sample_Valid
  refine Tot.ite (fun h => ?_) (fun h => ?_)
  · have : 1000 < (l.length : Int) := by simpa using h
    exact Tot.some ⟨fun e => (by cases e), fun e => by omega⟩
  · have hlen : l.length ≤ 1000 := by simp at h; omega
    refine Tot.bindLoop (fun s : Int => ∃ k : Nat, s = (k : Int) ∧ k ≤ l.length ∧ Ok (l.take k)) (fun s => l.length - s.toNat) (fun x => match x with | .inl _ => ¬ Ok l | .inr _ => Ok l) ⟨0, rfl, Nat.zero_le _, ok_nil⟩ ?_ ?_
    · rintro s ⟨k, rfl, hk, hok⟩
      unfold sample_Valid_L0
      refine Tot.ite (fun h => ?_) (fun h => ?_)
      · have hlt : k < l.length := by simpa using h
        have hw := cast_succ_w hlt hl
        have go : sOk l[k] → (∀ m (_ : k = m + 1), after (l[m]'(by omega)) l[k]) → Tot (some (Sum.inr (w64 ((k : Int) + 1)) : (Unit ⊕ Unit) ⊕ Int)) (Rnd (fun s : Int => ∃ k : Nat, s = (k : Int) ∧ k ≤ l.length ∧ Ok (l.take k)) (fun s => l.length - s.toNat) (fun x => match x with | .inl _ => ¬ Ok l | .inr _ => Ok l) (k : Int)) := fun h1 h2 =>
          Tot.next ⟨k + 1, hw, hlt, ok_take_succ hlt hok h1 h2⟩ (by rw [hw]; simp only [Int.toNat_natCast]; omega)
        refine Tot.jn ?_
        refine Tot.bindIdx k rfl hlt ?_
        refine Tot.bindOf (single_eq _) ?_
        refine Tot.ite (fun h1 => ?_) (fun h1 => ?_)
        · refine Tot.out fun ho => ?_
          have := ho.1 _ (List.getElem_mem hlt)
          simp [this] at h1
        · have hs : sOk l[k] := by simpa using h1
          refine Tot.ite (fun h2 => ?_) (fun h2 => ?_)
          · have : k = 0 := by simpa using h2
            exact go hs (fun m e => by omega)
          · obtain ⟨m, rfl⟩ : ∃ m, k = m + 1 := ⟨k - 1, by simp at h2; omega⟩
            have hp : sOk (l[m]'(by omega)) := hok.1 _ (prev_mem (by omega))
            refine Tot.bindIdx m (cast_pred_w (n := l.length) (by omega) hl) (by omega) ?_
            have e1 : w64 (l[m + 1].fPool - (l[m]'(by omega)).fPool) = l[m + 1].fPool - (l[m]'(by omega)).fPool := w64_id (by unfold sOk at hs hp; omega) (by unfold sOk at hs hp; omega)
            have e2 : w64 (l[m + 1].fSeq - (l[m]'(by omega)).fSeq) = l[m + 1].fSeq - (l[m]'(by omega)).fSeq := w64_id (by unfold sOk at hs hp; omega) (by unfold sOk at hs hp; omega)
            rw [e1, e2]
            refine Tot.ite (fun h3 => ?_) (fun h3 => ?_)
            · refine Tot.out fun ho => ?_
              have := List.pairwise_iff_getElem.1 ho.2 m (m + 1) (by omega) hlt (by omega)
              unfold after at this
              simp only [Bool.or_eq_true, decide_eq_true_eq] at h3
              omega
            · refine go hs (fun m' e => ?_)
              obtain rfl : m = m' := by omega
              unfold after
              simp only [Bool.or_eq_false_iff, decide_eq_false_iff_not] at h3
              omega
      · have : k = l.length := by simp at h; omega
        subst this
        rw [List.take_length] at hok
        exact Tot.out hok
    · intro x hx
      cases x with
      | inl _ => exact Tot.some ⟨fun e => (by cases e), fun e => absurd e.1 hx⟩
      | inr _ => exact Tot.some ⟨fun _ => ⟨hx, hlen⟩, fun _ => rfl⟩

theorem ref_valid (l : List api_Sample) (hl : l.length ≤ 4611686018427387904) : Tot (exchangepointref37_Valid l) (fun b => b = true ↔ Ok l ∧ l.length ≤ 1000) := by
  unfold exchangepointref37_Valid
  refine Tot.bindLoop (fun s : Int => ∃ k : Nat, s = (k : Int) ∧ k ≤ l.length ∧ Ok (l.take k)) (fun s => l.length - s.toNat) (fun x => match x with | .inl _ => ¬ Ok l | .inr _ => Ok l) ⟨0, rfl, Nat.zero_le _, ok_nil⟩ ?_ ?_
  · rintro s ⟨k, rfl, hk, hok⟩
    unfold exchangepointref37_Valid_L0
    refine Tot.ite (fun h => ?_) (fun h => ?_)
    · have hlt : k < l.length := by simpa using h
      have hw := cast_succ_w hlt hl
      refine Tot.bindIdx k rfl hlt ?_
      refine Tot.jn ?_
      refine Tot.ite (fun h2 => ?_) (fun h2 => ?_)
      · obtain ⟨m, rfl⟩ : ∃ m, k = m + 1 := ⟨k - 1, by simp at h2; omega⟩
        have hp : sOk (l[m]'(by omega)) := hok.1 _ (prev_mem (by omega))
        refine Tot.bindIdx m (cast_pred_w (n := l.length) (by omega) hl) (by omega) ?_
        refine Tot.ite (fun h3 => ?_) (fun h3 => ?_)
        · rw [Bool.not_eq_true'] at h3
          refine Tot.out fun ho => absurd ?_ (Bool.eq_false_iff.1 h3)
          have hs := ho.1 _ (List.getElem_mem hlt)
          have ha := List.pairwise_iff_getElem.1 ho.2 m (m + 1) (by omega) hlt (by omega)
          unfold after at ha
          unfold sOk at hs hp
          rw [w64_id (by omega) (by omega), w64_id (by omega) (by omega)]
          simp only [Bool.and_eq_true, decide_eq_true_eq]
          omega
        · simp only [Bool.not_eq_false', Bool.and_eq_true, decide_eq_true_eq] at h3
          have hs : sOk l[m + 1] := by unfold sOk; omega
          have hs' := hs
          unfold sOk at hs' hp
          rw [w64_id (by omega) (by omega), w64_id (by omega) (by omega)] at h3
          refine Tot.next ⟨m + 1 + 1, hw, hlt, ok_take_succ hlt hok hs (fun m' e => ?_)⟩ (by rw [hw]; simp only [Int.toNat_natCast]; omega)
          obtain rfl : m = m' := by omega
          unfold after
          omega
      · have : k = 0 := by simp at h2; omega
        subst this
        refine Tot.ite (fun h3 => ?_) (fun h3 => ?_)
        · rw [Bool.not_eq_true'] at h3
          refine Tot.out fun ho => absurd ?_ (Bool.eq_false_iff.1 h3)
          have hs := ho.1 _ (List.getElem_mem hlt)
          unfold sOk at hs
          simp only [Bool.and_eq_true, decide_eq_true_eq]
          omega
        · simp only [Bool.not_eq_false', Bool.and_eq_true, decide_eq_true_eq] at h3
          have hs : sOk l[0] := by unfold sOk; omega
          exact Tot.next ⟨0 + 1, hw, hlt, ok_take_succ hlt hok hs (fun m' e => by omega)⟩ (by rw [hw]; simp only [Int.toNat_natCast]; omega)
    · have : k = l.length := by simp at h; omega
      subst this
      rw [List.take_length] at hok
      exact Tot.out hok
  · intro x hx
    cases x with
    | inl _ => exact Tot.some ⟨fun e => (by cases e), fun e => absurd e.1 hx⟩
    | inr _ => exact Tot.some ⟨fun e => ⟨hx, by simp at e; omega⟩, fun e => by simp; omega⟩

-- strictly ascending numbers

theorem key3 : KeyLaw keq3 := fun a b => by unfold keq3; simp
/-- the ASN of the first rule of a port -/
def ownF : List api_Rule → Int → Option Int
  | [], _ => none
  | r :: l, q => if q = r.fPort then some r.fASN else ownF l q
theorem members_tot (rs : List api_Rule) (hl : rs.length ≤ 4611686018427387904) : Tot (loop (matrix_Cells_L0 rs) ((w64 ((rs.length : Int) - 1)), ([] : List (Int × Int)))) (fun m => ∀ q, mget keq3 m q = ownF rs q) := by
  refine Tot.loop (fun s : Int × List (Int × Int) => ∃ k : Nat, k ≤ rs.length ∧ s.1 = (k : Int) - 1 ∧ ∀ q, mget keq3 s.2 q = ownF (rs.drop k) q) (fun s => (s.1 + 1).toNat) _ (fun s hs => ?_) ⟨rs.length, Nat.le_refl _, w64_id (by omega) (by omega), fun q => by rw [List.drop_length]; rfl⟩
  obtain ⟨k, hk, h1, h2⟩ := hs
  obtain ⟨i, m⟩ := s
  simp only at h1 h2
  subst h1
  unfold matrix_Cells_L0
  refine Tot.ite (fun h => ?_) (fun h => ?_)
  · obtain ⟨j, rfl⟩ : ∃ j, k = j + 1 := ⟨k - 1, by simp at h; omega⟩
    have e : ((j + 1 : Nat) : Int) - 1 = (j : Int) := by omega
    simp only [e]
    refine Tot.bindIdx j rfl (by omega) (Tot.bindIdx j rfl (by omega) (Tot.next ⟨j, by omega, w64_id (by omega) (by omega), fun q => ?_⟩ ?_))
    · simp only
      rw [mget_mput key3, h2, List.drop_eq_getElem_cons (by omega : j < rs.length)]
      rfl
    · simp only
      rw [w64_id (by omega) (by omega)]
      omega
  · have : k = 0 := by simp at h; omega
    subst this
    exact Tot.out h2

theorem own_drop {rs : List api_Rule} {k : Nat} {q : Int} (hk : k < rs.length) : ownF (rs.drop k) q = if q = rs[k].fPort then some rs[k].fASN else ownF (rs.drop (k + 1)) q := by
  rw [List.drop_eq_getElem_cons hk]; rfl
theorem owner_eq (rs : List api_Rule) (q : Int) (hl : rs.length ≤ 4611686018427387904) : exchangepointref38_owner rs q = some ((ownF rs q).getD 0, (ownF rs q).isSome) := by
  refine Tot.eq ?_
  unfold exchangepointref38_owner
  refine Tot.bindRng rs.length (fun k (_ : Unit) => ((k : Nat) : Int)) (fun k _ => ownF (rs.drop k) q = ownF rs q) (fun x => match x with | .inl a => ownF rs q = some a | .inr _ => ownF rs q = none) () rfl rfl (fun k b hk hb => ?_) (fun b hb => ?_) (fun x hx => ?_)
  · unfold exchangepointref38_owner_L0
    refine Tot.iteT (by simpa using hk) (Tot.bindIdx k rfl hk ?_)
    rw [own_drop hk] at hb
    refine Tot.ite (fun h => ?_) (fun h => ?_)
    · have e : q = rs[k].fPort := by simpa using (beq_iff_eq.1 h).symm
      rw [if_pos e] at hb
      exact Tot.stop hb.symm
    · have e : ¬ q = rs[k].fPort := fun e => by rw [e] at h; simp at h
      rw [if_neg e] at hb
      exact Tot.step () (w64_id (by omega) (by omega)) hb
  · unfold exchangepointref38_owner_L0
    refine Tot.iteF (by simp) (Tot.last ?_)
    rw [List.drop_length] at hb
    exact hb.symm
  · cases x with
    | inl a => exact Tot.some (by rw [show ownF rs q = some a from hx]; rfl)
    | inr u => exact Tot.some (by rw [show ownF rs q = none from hx]; rfl)

end Go.Proofs.Ytpdfmjkfplgkfaa
