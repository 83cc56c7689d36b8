/- Maps in plain words. -/
import Derived.Test.YtgfoabcickjphaaGreatDoorVcMD
namespace Go.Vc
open Go
section
variable {α β : Type} {eq : α → α → Bool}
def KeyLaw (eq : α → α → Bool) : Prop := ∀ a b, eq a b = true ↔ a = b
theorem mget_nil (q : α) : mget eq ([] : List (α × β)) q = none := rfl
theorem mget_cons (p : α × β) (l : List (α × β)) (q : α) : mget eq (p :: l) q = if eq q p.1 = true then some p.2 else mget eq l q := by
 have e : mix eq q (p :: l) = if eq q p.1 = true then some (0, p.2) else (mix eq q l).map fun r => (r.1 + 1, r.2) := by rw [mix]
 show (mix eq q (p :: l)).map (·.2) = if eq q p.1 = true then some p.2 else (mix eq q l).map (·.2)
 rw [e]
 by_cases h : eq q p.1 = true
 ·rw [if_pos h, if_pos h]; rfl
 ·rw [if_neg h, if_neg h]
  cases mix eq q l <;> rfl
theorem mget_mput (h : KeyLaw eq) (k : α) (v : β) [DecidableEq α] : ∀ (l : List (α × β)) (q : α), mget eq (mput eq l k v) q = if q = k then some v else mget eq l q
 | [], q => by
  unfold mput
  rw [mget_cons, mget_nil]
  by_cases e : q = k
  ·rw [if_pos ((h _ _).2 e), if_pos e]
  ·rw [if_neg (fun x => e ((h _ _).1 x)), if_neg e]
 | p :: l, q => by
  have ih := mget_mput h k v l q
  unfold mput
  by_cases hk : eq k p.1 = true
  ·have hkp := (h _ _).1 hk
   rw [if_pos hk, mget_cons, mget_cons]
   by_cases e : q = k
   ·have : eq q p.1 = true := (h _ _).2 (e.trans hkp)
    rw [if_pos this, if_pos e]
   ·have : ¬ eq q p.1 = true := fun x => e (((h _ _).1 x).trans hkp.symm)
    rw [if_neg this, if_neg e, if_neg this]
  ·have hkp : ¬ k = p.1 := fun x => hk ((h _ _).2 x)
   rw [if_neg hk, mget_cons, mget_cons, ih]
   by_cases hq : eq q p.1 = true
   ·have hqp := (h _ _).1 hq
    rw [if_pos hq, if_pos hq, if_neg (fun e => hkp (e.symm.trans hqp))]
   ·rw [if_neg hq, if_neg hq]
def mkeys (l : List (α × β)) : List α := l.map (·.1)
theorem mkeys_mput [DecidableEq α] (h : KeyLaw eq) (k : α) (v : β) : ∀ l : List (α × β), mkeys (mput eq l k v) = if k ∈ mkeys l then mkeys l else mkeys l ++ [k]
 | [] => by simp [mput, mkeys]
 | p :: l => by
  have ih := mkeys_mput h k v l
  unfold mput
  by_cases hk : eq k p.1 = true
  ·have hkp := (h _ _).1 hk
   rw [if_pos hk, if_pos (by simp [mkeys, hkp])]
   rfl
  ·have hkp : ¬ k = p.1 := fun x => hk ((h _ _).2 x)
   rw [if_neg hk]
   have e1 : mkeys (p :: mput eq l k v) = p.1 :: mkeys (mput eq l k v) := rfl
   have e2 : mkeys (p :: l) = p.1 :: mkeys l := rfl
   rw [e1, e2, ih]
   by_cases hm : k ∈ mkeys l
   ·rw [if_pos hm, if_pos (List.mem_cons_of_mem _ hm)]
   ·rw [if_neg hm, if_neg (fun x => by rcases List.mem_cons.1 x with x | x; exact hkp x; exact hm x)]
    rfl
theorem mkeys_nodup [DecidableEq α] (h : KeyLaw eq) (k : α) (v : β) {l : List (α × β)} (hl : (mkeys l).Nodup) : (mkeys (mput eq l k v)).Nodup := by
 rw [mkeys_mput h]
 by_cases hm : k ∈ mkeys l
 ·rw [if_pos hm]; exact hl
 ·rw [if_neg hm, List.nodup_append]
  refine ⟨hl, by simp, fun a ha b hb e => ?_⟩
  rw [List.mem_singleton.1 hb] at e
  exact hm (e ▸ ha)
end
end Go.Vc
