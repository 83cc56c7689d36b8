/- Counted loops of plain functions. -/
import Derived.Test.YtkhjkjojjdkidaaGreatDoorVcS
namespace Go.Vc
open Go
section
variable {α β S X:Type} {P:α→Prop}
theorem Tot.iteT {b:Bool} {x y:Option α} (h:b=true) (k:Tot x P):Tot (if b=true then x else y) P:=by rw [if_pos h];exact k
theorem Tot.iteF {b:Bool} {x y:Option α} (h:b=false) (k:Tot y P):Tot (if b=true then x else y) P:=by
 rw [if_neg (by rw [h];simp)];exact k
def Stp (st:Nat→β→S) (J:Nat→β→Prop) (Q:X→Prop) (k:Nat):X⊕S→Prop
 | .inl x=>Q x
 | .inr s=>∃ b,s=st (k+1) b∧J (k+1) b
def Fin' (Q:X→Prop):X⊕S→Prop
 | .inl x=>Q x
 | .inr _=>False
variable {st:Nat→β→S} {J:Nat→β→Prop} {Q:X→Prop} {k:Nat}
theorem Tot.stop {x:X} (h:Q x):Tot (Option.some (Sum.inl x:X⊕S)) (Stp st J Q k):=⟨_,rfl,h⟩
theorem Tot.step {s:S} (b:β) (e:s=st (k+1) b) (h:J (k+1) b):Tot (Option.some (Sum.inr s:X⊕S)) (Stp st J Q k):=⟨_,rfl,b,e,h⟩
theorem Tot.last {x:X} (h:Q x):Tot (Option.some (Sum.inl x:X⊕S)) (Fin' Q):=⟨_,rfl,h⟩
theorem Tot.rng {tb:S→Option (X⊕S)} (n:Nat) (st:Nat→β→S) (J:Nat→β→Prop) (Q:X→Prop) {s0:S} (b0:β) (e0:s0=st 0 b0) (h0:J 0 b0)
  (h:∀ k b,k<n→J k b→Tot (tb (st k b)) (Stp st J Q k)) (he:∀ b,J n b→Tot (tb (st n b)) (Fin' Q)):Tot (Vc.loop tb s0) Q:=by
 subst e0
 have key:∀ (m k:Nat) (b:β),k+m=n→J k b→Tot (Vc.loop tb (st k b)) Q:=by
  intro m
  induction m with
  | zero =>
   intro k b hk hb
   have:k=n:=by omega
   subst this
   obtain⟨y,e,hy⟩:=he b hb
   cases y with
   | inl x=>exact⟨x,A4u e,hy⟩
   | inr _=>exact hy.elim
  | succ m ih =>
   intro k b hk hb
   obtain⟨y,e,hy⟩:=h k b (by omega) hb
   cases y with
   | inl x=>exact⟨x,A4u e,hy⟩
   | inr s =>
    obtain⟨b',rfl,hb'⟩:=hy
    obtain⟨x,ex,hx⟩:=ih (k+1) b' (by omega) hb'
    exact⟨x,A6l e ex,hx⟩
 exact key n 0 b0 (by omega) h0
theorem Tot.bindRng {tb:S→Option (X⊕S)} {f:X→Option α} (n:Nat) (st:Nat→β→S) (J:Nat→β→Prop) (Q:X→Prop) {s0:S} (b0:β) (e0:s0=st 0 b0) (h0:J 0 b0)
  (h:∀ k b,k<n→J k b→Tot (tb (st k b)) (Stp st J Q k)) (he:∀ b,J n b→Tot (tb (st n b)) (Fin' Q)) (kk:∀ x,Q x→Tot (f x) P):Tot ((Vc.loop tb s0).bind f) P :=
 Tot.bindT (Tot.rng n st J Q b0 e0 h0 h he) kk
end
theorem J4 {α:Type} {xs:List α} {k:Nat} (h:k<xs.length):xs.take (k+1)=xs.take k++[xs[k]]:=List.take_succ_eq_append_getElem h
theorem limB {n:Nat} (h:n≤4000000000):decide (n≤LIM)=true:=decide_eq_true (show n≤4294967296 by omega)
end Go.Vc
