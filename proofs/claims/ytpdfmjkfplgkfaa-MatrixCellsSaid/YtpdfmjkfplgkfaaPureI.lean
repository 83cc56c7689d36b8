/- Chapter 38 in plain Lean: the document's put. -/
import Derived.Test.YtpdfmjkfplgkfaaPureH
namespace Go.Proofs.Ytpdfmjkfplgkfaa
open Go Go.Vc

def cLt (a b : api_Cell) : Prop := a.fFrom < b.fFrom ∨ (a.fFrom = b.fFrom ∧ a.fTo < b.fTo)
instance (a b : api_Cell) : Decidable (cLt a b) := by unfold cLt; infer_instance
theorem less_eq (a b : api_Cell) : exchangepointref38_less a b = some (decide (cLt a b)) := by
  unfold exchangepointref38_less jn cLt
  by_cases h : a.fFrom < b.fFrom
  · simp [h]
  · by_cases e : a.fFrom = b.fFrom
    · simp [e]
    · simp [h, e]
def mixC (c x : api_Cell) : api_Cell := api_Cell.mk c.fFrom c.fTo (w64 (c.fSamples + x.fSamples)) (w64 (c.fBytes + x.fBytes))
def PutL : List api_Cell → api_Cell → List api_Cell
  | [], c => [c]
  | x :: l, c => if cLt x c then x :: PutL l c else if cLt c x then c :: x :: l else mixC c x :: l
theorem put_split (c : api_Cell) : ∀ (k : Nat) (l : List api_Cell), k ≤ l.length → (∀ x ∈ l.take k, cLt x c) → PutL l c = l.take k ++ PutL (l.drop k) c
  | 0, l, _, _ => by simp
  | k + 1, [], h, _ => by simp at h
  | k + 1, x :: l, h, hx => by
    rw [List.take_succ_cons, List.drop_succ_cons]
    have h1 : cLt x c := hx x (by rw [List.take_succ_cons]; exact List.mem_cons_self)
    rw [PutL, if_pos h1, put_split c k l (by simpa using h) (fun y hy => hx y (by rw [List.take_succ_cons]; exact List.mem_cons_of_mem _ hy))]
    rfl
theorem putL_len (c : api_Cell) : ∀ l : List api_Cell, (PutL l c).length ≤ l.length + 1
  | [] => by simp [PutL]
  | x :: l => by
    have := putL_len c l
    unfold PutL
    split
    · simp; omega
    · split <;> simp
theorem put_eq (l : List api_Cell) (c : api_Cell) (hl : l.length ≤ 3000000000) : exchangepointref38_put l c = some (PutL l c) := by
  refine Tot.eq ?_
  unfold exchangepointref38_put
  refine Tot.bindLoop (fun s : Int => ∃ k : Nat, s = (k : Int) ∧ k ≤ l.length ∧ ∀ x ∈ l.take k, cLt x c) (fun s => l.length - s.toNat) (fun s : Int => ∃ k : Nat, s = (k : Int) ∧ k ≤ l.length ∧ (∀ x ∈ l.take k, cLt x c) ∧ ∀ h : k < l.length, ¬ cLt l[k] c) ⟨0, rfl, Nat.zero_le _, by simp⟩ ?_ ?_
  · rintro s ⟨k, rfl, hk, hall⟩
    unfold exchangepointref38_put_L0
    refine Tot.jn (Tot.ite (fun h => ?_) (fun h => ?_))
    · have hlt : k < l.length := by simpa using h
      refine Tot.bindIdx k rfl hlt (Tot.bindOf (less_eq _ _) ?_)
      refine Tot.ite (fun h2 => ?_) (fun h2 => ?_)
      · have hc : cLt l[k] c := by simpa using h2
        have hw : w64 ((k : Int) + 1) = ((k + 1 : Nat) : Int) := by rw [w64_id (by omega) (by omega)]; rfl
        rw [hw]
        refine Tot.next ⟨k + 1, rfl, hlt, fun x hx => ?_⟩ (by simp only [Int.toNat_natCast]; omega)
        rw [take_snoc hlt] at hx
        rcases List.mem_append.1 hx with hx | hx
        · exact hall x hx
        · rw [List.mem_singleton.1 hx]; exact hc
      · exact Tot.out ⟨k, rfl, hk, hall, fun _ => by simpa using h2⟩
    · refine Tot.iteF rfl (Tot.out ⟨k, rfl, hk, hall, fun hlt => ?_⟩)
      simp at h; omega
  · rintro s ⟨k, rfl, hk, hall, hnot⟩
    have hsp := put_split c k l hk hall
    simp only [Int.toNat_natCast, List.drop_zero, List.take_length]
    refine Tot.chk (by simp; omega) (Tot.chk (limB (by simp; omega)) ?_)
    have tailF : (∀ h : k < l.length, cLt c l[k]) → Tot (chk (decide ((l.take k ++ ([c] : List api_Cell)).length ≤ LIM)) <| chk ((decide (0 ≤ (k : Int)) && decide (k ≤ l.length) && decide (l.length ≤ l.length))) <| chk (decide (((l.take k ++ ([c] : List api_Cell)) ++ (l.drop k)).length ≤ LIM)) <| some ((l.take k ++ ([c] : List api_Cell)) ++ (l.drop k))) (fun x => x = PutL l c) := fun hc => by
      refine Tot.chk (limB (by simp; omega)) (Tot.chk (by simp; omega) (Tot.chk (limB (by simp; omega)) (Tot.some ?_)))
      rw [hsp, List.append_assoc]
      congr 1
      cases hd : l.drop k with
      | nil => rfl
      | cons x r =>
        have hlt : k < l.length := by
          rcases Nat.lt_or_ge k l.length with h | h
          · exact h
          · rw [List.drop_eq_nil_of_le h] at hd; cases hd
        rw [List.drop_eq_getElem_cons hlt] at hd
        cases hd
        rw [PutL, if_neg (hnot hlt), if_pos (hc hlt)]
        rfl
    refine Tot.jn (Tot.ite (fun h => ?_) (fun h => ?_))
    · have hlt : k < l.length := by simpa using h
      refine Tot.bindIdx k rfl hlt (Tot.bindOf (less_eq _ _) ?_)
      refine Tot.ite (fun h2 => ?_) (fun h2 => ?_)
      · have hc : ¬ cLt c l[k] := by simpa using h2
        have hw : w64 ((k : Int) + 1) = ((k + 1 : Nat) : Int) := by rw [w64_id (by omega) (by omega)]; rfl
        rw [hw]
        simp only [Int.toNat_natCast]
        refine Tot.bindIdx k rfl hlt (Tot.bindIdx k rfl hlt (Tot.chk (limB (by simp; omega)) (Tot.chk (by simp; omega) (Tot.chk (limB (by simp; omega)) (Tot.some ?_)))))
        rw [hsp, List.append_assoc]
        congr 1
        rw [List.drop_eq_getElem_cons hlt, PutL, if_neg (hnot hlt), if_neg hc]
        rfl
      · exact tailF fun _ => by simpa using h2
    · refine Tot.iteF rfl (tailF fun hlt => ?_)
      simp at h; omega
end Go.Proofs.Ytpdfmjkfplgkfaa
