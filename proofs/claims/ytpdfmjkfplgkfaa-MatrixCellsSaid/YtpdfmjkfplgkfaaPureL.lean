/- Chapter 38 in plain Lean: matrices of samples. -/
import Derived.Test.YtpdfmjkfplgkfaaPureK
namespace Go.Proofs.Ytpdfmjkfplgkfaa
open Go Go.Vc

abbrev ownD (rs : List api_Rule) (q : Int) : Int := (ownF rs q).getD 0
def cellOf (rs : List api_Rule) (s : api_Sample) : api_Cell := api_Cell.mk (ownD rs s.fIn) (ownD rs s.fOut) 1 s.fBytes
/-- a sample whose ports have owners -/
def owned (rs : List api_Rule) (s : api_Sample) : Bool := (ownF rs s.fIn).isSome && (ownF rs s.fOut).isSome
instance (n : Int) : Decidable (num n) := by unfold num; infer_instance
def good (rs : List api_Rule) (s : api_Sample) : Bool := decide (num (ownD rs s.fIn)) && decide (num (ownD rs s.fOut))
def putAll (l : List api_Cell) (cs : List api_Cell) : List api_Cell := cs.foldl PutL l
open Classical in
noncomputable def CellsF (l : List api_Sample) (rs : List api_Rule) : List api_Cell × Int :=
  if Ok l ∧ l.length ≤ 1000 then
    (if l.all (owned rs) = true then (if l.all (good rs) = true then (putAll [] (l.map (cellOf rs)), 0) else ([], 1)) else ([], 7))
  else ([], 1)
theorem num_dec (n : Int) : ((decide ((1 : Int) ≤ n)) && (decide (n ≤ (4294967295 : Int)))) = decide (num n) := by
  by_cases h : num n
  · rw [decide_eq_true h]
    unfold num at h
    simp [h]
  · rw [decide_eq_false h]
    unfold num at h
    rw [Bool.and_eq_false_iff]
    by_cases h1 : 1 ≤ n
    · exact .inr (by simp; omega)
    · exact .inl (by simp; omega)
theorem number_eq (n : Int) : matrix_number n = some (decide (num n)) := congrArg some (num_dec n)
theorem asn_eq (n : Int) : exchangepointref38_asn n = some (decide (num n)) := congrArg some (num_dec n)
theorem mput_len {α β : Type} (eq : α → α → Bool) (k : α) (v : β) : ∀ l : List (α × β), (mput eq l k v).length ≤ l.length + 1
  | [] => by simp [mput]
  | p :: l => by
    have := mput_len eq k v l
    unfold mput
    split
    · simp
    · simp; omega
theorem putAll_snoc (l : List api_Cell) (cs : List api_Cell) (c : api_Cell) : putAll l (cs ++ [c]) = PutL (putAll l cs) c := by
  unfold putAll; rw [List.foldl_append]; rfl
theorem putAll_len (cs : List api_Cell) : ∀ l : List api_Cell, (putAll l cs).length ≤ l.length + cs.length := by
  induction cs with
  | nil => intro l; simp [putAll]
  | cons c cs ih =>
    intro l
    have h1 := ih (PutL l c)
    have h2 := putL_len c l
    show (putAll (PutL l c) cs).length ≤ _
    simp only [List.length_cons]
    omega
end Go.Proofs.Ytpdfmjkfplgkfaa
