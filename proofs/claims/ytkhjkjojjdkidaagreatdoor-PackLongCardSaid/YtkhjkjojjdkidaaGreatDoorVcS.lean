/- Total answers of plain functions: rules for each word, loops with an invariant and a measure; sorted lists. -/
import Derived.Test.YtkhjkjojjdkidaaGreatDoorVcR
namespace Go.Vc
open Go
def Tot {α:Type} (o:Option α) (P:α→Prop):Prop:=∃ x,o=some x∧P x
section
variable {α β S X:Type} {P:α→Prop}
theorem Tot.some {x:α} (h:P x):Tot (some x) P:=⟨x,rfl,h⟩
theorem Tot.of {o:Option α} {x:α} (e:o=Option.some x) (h:P x):Tot o P:=⟨x,e,h⟩
theorem Tot.mono {o:Option α} {P':α→Prop} (h:Tot o P') (k:∀ x,P' x→P x):Tot o P:=by
 obtain⟨x,e,hx⟩:=h;exact⟨x,e,k x hx⟩
theorem Tot.bind {o:Option β} {f:β→Option α} (h:Tot o (fun x=>Tot (f x) P)):Tot (o.bind f) P:=by
 obtain⟨x,e,y,e',hy⟩:=h;exact⟨y,by rw [e];exact e',hy⟩
theorem Tot.bindOf {o:Option β} {x:β} {f:β→Option α} (e:o=Option.some x) (h:Tot (f x) P):Tot (o.bind f) P:=Tot.bind ⟨x,e,h⟩
theorem Tot.bindT {o:Option β} {f:β→Option α} {P':β→Prop} (h:Tot o P') (k:∀ x,P' x→Tot (f x) P):Tot (o.bind f) P:=Tot.bind (h.mono k)
theorem Tot.ite {b:Bool} {x y:Option α} (h1:b=true→Tot x P) (h2:b=false→Tot y P):Tot (if b=true then x else y) P:=by
 cases b
 ·rw [if_neg (by simp)];exact h2 rfl
 ·rw [if_pos rfl];exact h1 rfl
theorem Tot.chk {p:Bool} {k:Option α} (h:p=true) (hk:Tot k P):Tot (chk p k) P:=by rw [h];exact hk
theorem Tot.jn {M:Type} {rest:M→Option α} {body:(M→Option α)→Option α} (h:Tot (body rest) P):Tot (jn rest body) P:=h
theorem Tot.jnR {M:Type} {rest:M→Option α} {body:(M→Option α)→Option α} (R:M→Prop) (h:∀ j:M→Option α,(∀ m,R m→Tot (j m) P)→Tot (body j) P) (k:∀ m,R m→Tot (rest m) P):Tot (Vc.jn rest body) P:=h rest k
theorem Tot.idx {xs:List α} {i:Int} (k:Nat) (e:i=k) (hk:k<xs.length) (h:P xs[k]):Tot (idx xs i) P:=by
 subst e;exact⟨xs[k],B2u (List.getElem?_eq_getElem hk),h⟩
theorem Tot.bindIdx {xs:List β} {i:Int} {f:β→Option α} (k:Nat) (e:i=k) (hk:k<xs.length) (h:Tot (f xs[k]) P):Tot ((Vc.idx xs i).bind f) P:=Tot.bind (Tot.idx k e hk h)
theorem Tot.eq {o:Option α} {x:α} (h:Tot o (fun y=>y=x)):o=Option.some x:=by obtain⟨y,e,rfl⟩:=h;exact e
theorem Tot.to {o:Option α} {x:α} (e:o=Option.some x):Tot o (fun y=>y=x):=⟨x,e,rfl⟩
theorem Tot.get {o:Option α} {x:α} (h:Tot o P) (e:o=Option.some x):P x:=by
 obtain⟨y,e',hy⟩:=h;rw [e] at e';cases e';exact hy
def Rnd (I:S→Prop) (μ:S→Nat) (Q:X→Prop) (s:S):X⊕S→Prop
 | .inl x=>Q x
 | .inr s'=>I s'∧μ s'<μ s
variable {I:S→Prop} {μ:S→Nat} {Q:X→Prop}
theorem Tot.out {s:S} {x:X} (h:Q x):Tot (Option.some (Sum.inl x:X⊕S)) (Rnd I μ Q s):=⟨_,rfl,h⟩
theorem Tot.next {s s':S} (h:I s') (hm:μ s'<μ s):Tot (Option.some (Sum.inr s':X⊕S)) (Rnd I μ Q s):=⟨_,rfl,h,hm⟩
theorem Tot.loop {tb:S→Option (X⊕S)} (I:S→Prop) (μ:S→Nat) (Q:X→Prop) (h:∀ s,I s→Tot (tb s) (Rnd I μ Q s)) {s:S} (hs:I s):Tot (Vc.loop tb s) Q:=by
 obtain⟨x,hx,e⟩:=B3l I μ Q (fun s hi=>by
  obtain⟨y,e,hy⟩:=h s hi
  cases y with
  | inl x=>exact .inl ⟨x,hy,e⟩
  | inr s'=>exact .inr ⟨s',hy.1,hy.2,e⟩) hs
 exact⟨x,e,hx⟩
theorem Tot.bindLoop {tb:S→Option (X⊕S)} {f:X→Option α} (I:S→Prop) (μ:S→Nat) (Q:X→Prop) {s:S} (hs:I s) (h:∀ s,I s→Tot (tb s) (Rnd I μ Q s)) (k:∀ x,Q x→Tot (f x) P):Tot ((Vc.loop tb s).bind f) P :=
 Tot.bindT (Tot.loop I μ Q h hs) k
end
theorem E8 {k n:Nat} (h:k<n) (hn:n≤4611686018427387904):w64 ((k:Int)+1)=((k+1:Nat):Int):=by
 rw [F3 (by omega) (by omega)];rfl
theorem A77 {k n:Nat} (h:k<n) (hn:n≤4611686018427387904):w64 (((k+1:Nat):Int)-1)=(k:Int):=by
 rw [F3 (by omega) (by omega)];omega
end Go.Vc
