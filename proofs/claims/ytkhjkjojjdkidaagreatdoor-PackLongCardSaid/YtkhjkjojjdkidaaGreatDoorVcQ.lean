/- Words for plain proofs: numbers, lists, loops. -/
import Derived.Test.YtkhjkjojjdkidaaGreatDoorVcP
namespace Go.Vc
open Go
theorem F3 {n:Int} (h:-9223372036854775808≤n) (h':n≤9223372036854775807):w64 n=n:=by
 unfold w64
 rw [IntWalk.i64_left,IntWalk.wrap64_in n ⟨h,h'⟩]
theorem B2u {α:Type} {xs:List α} {k:Nat} {x:α} (h:xs[k]? = some x):idx xs (k:Int)=some x:=by
 unfold idx
 rw [if_pos (by omega)]
 simpa using h
theorem L0 {α β:Type} {o:Option α} {x:α} {f:α→Option β} {y:Option β} (h:o=some x) (k:f x=y):o.bind f=y:=by rw [h];exact k
theorem B6m {α:Type} {p:Bool} {k y:Option α} (h:p=true) (e:k=y):chk p k=y:=by rw [h];exact e
theorem B11 {α:Type} {b:Bool} {x y r:α} (hb:b=true) (h:x=r):(if b=true then x else y)=r:=by rw [if_pos hb];exact h
theorem B12 {α:Type} {b:Bool} {x y r:α} (hb:b=false) (h:y=r):(if b=true then x else y)=r:=by rw [if_neg (by rw [hb];simp)];exact h
theorem B3l {St X:Type} {tb:St→Option (X⊕St)} (I:St→Prop) (μ:St→Nat) (out:X→Prop)
  (h:∀ s,I s→(∃ x,out x∧tb s=some (.inl x))∨∃ s',I s'∧μ s'<μ s∧tb s=some (.inr s')) {s:St} (hs:I s):∃ x,out x∧loop tb s=some x:=by
 have key:∀ (n:Nat) (s:St),μ s≤n→I s→∃ x,out x∧loop tb s=some x:=by
  intro n
  induction n with
  | zero =>
   intro s hn hi
   rcases h s hi with ⟨x,hx,e⟩ | ⟨s',_,hlt,_⟩
   ·exact⟨x,hx,A4u e⟩
   ·omega
  | succ n ih =>
   intro s hn hi
   rcases h s hi with ⟨x,hx,e⟩ | ⟨s',hi',hlt,e⟩
   ·exact⟨x,hx,A4u e⟩
   ·obtain⟨x,hx,e'⟩:=ih s' (by omega) hi'
    exact⟨x,hx,A6l e e'⟩
 exact key (μ s) s (Nat.le_refl _) hs
theorem B13 (a:Int) {m:Int} (hm:0<m):0≤a % m∧a % m<m:=⟨Int.emod_nonneg a (by omega),Int.emod_lt_of_pos a hm⟩
theorem B3m (a:Int) {m:Int} (hm:0<m):a.tmod m=a % m∨(a.tmod m=a % m-m∧a % m≠0):=by
 rw [Int.tmod_eq_emod]
 by_cases h:0≤a∨m∣a
 ·left;rw [if_pos h];omega
 ·right
  rw [if_neg h]
  refine⟨by omega,fun e=>h (.inr (Int.dvd_of_emod_eq_zero e))⟩
theorem FA.cons {p:D→Prop} {ps:List (D→Prop)} {xs:List D} (h:FA (p :: ps) xs):∃ d ds,xs=d :: ds∧p d∧FA ps ds:=by
 cases xs with
 | nil=>exact h.elim
 | cons d ds=>exact⟨d,ds,rfl,h.1,h.2⟩
theorem FA.nil {xs:List D} (h:FA [] xs):xs=[]:=by
 cases xs with
 | nil=>rfl
 | cons _ _=>exact h.elim
end Go.Vc
