/- Part of the proof that 'TopFrames' holds of every input: no condition. -/
import Derived.Test.YtalojkjpjdcibaaGreatDoorXAN
import Derived.Test.YtalojkjpjdcibaaGreatDoorXAC
namespace Go.Top
open Go Go.Vc
theorem L1 {S X:Type} {tb:S->Option (X⊕S)} {Inv:Nat->S->Prop} {Q:X->Prop} (step:∀ i s,Inv i s->(∃ x,tb s=some (.inl x)∧Q x)∨∃ s' j,j<i∧tb s=some (.inr s')∧Inv j s')
  {n:Nat} (hn:n<=10000) {s:S} (h0:Inv n s):∃ x,loopF tb s=some x∧Q x:=by
 have key:∀ n,∀ m,m<=n->∀ s,Inv m s->∃ x,K5 tb (n+1) s=some x∧Q x:=by
  intro n;induction n with
  | zero =>
   intro m hm s h;rcases step m s h with ⟨x,h1,h2⟩ | ⟨s',j,hj,_,_⟩
   ·exact⟨x,by rw [K5,h1];rfl,h2⟩
   omega
  | succ n ih =>
   intro m hm s h;rcases step m s h with ⟨x,h1,h2⟩ | ⟨s',j,hj,h1,h2⟩
   ·exact⟨x,by rw [K5,h1];rfl,h2⟩
   ·obtain⟨x,h3,h4⟩:=ih j (by omega) s' h2;exact⟨x,by rw [K5,h1];exact h3,h4⟩
 obtain⟨x,h1,h2⟩:=key n n (Nat.le_refl _) s h0;exact⟨x,M5 (by omega) h1,h2⟩
theorem A8p (a b:Int):∃ c,Uf a b=some c:=by
 have h3:∀ x ,A1c x=some false:=λx=>by simp [A1c]
 by_cases h1:a<b
 ·exact⟨_,by simp  [Uf,h3,decide_eq_true h1];rfl⟩
 ·by_cases h2:b<a
  ·exact⟨_,by simp  [Uf,h3,decide_eq_false h1,decide_eq_true h2];rfl⟩
  ·exact⟨_,by simp  [Uf,h3,decide_eq_false h1,decide_eq_false h2];rfl⟩
theorem Wl (a b:Int):∃ c,f143 a b=some c:=by
 have h3:∀ x ,B14 x=some false:=λx=>by simp [B14]
 by_cases h1:a<b
 ·exact⟨_,by simp  [f143,h3,decide_eq_true h1];rfl⟩
 ·by_cases h2:b<a
  ·exact⟨_,by simp  [f143,h3,decide_eq_false h1,decide_eq_true h2];rfl⟩
  ·exact⟨_,by simp  [f143,h3,decide_eq_false h1,decide_eq_false h2];rfl⟩
theorem A8q (l:List Int) (hl:l.length<=1000):∃ c,B15 l=some c:=by
 obtain⟨x,hx,_⟩:=Hv (l:=l) (by omega) (tb:=Oj l) (Q:=λ_=>True) (λi a ha=>by
  cases he:(a != 0) with
  | true=>exact .inr ⟨.inr a,by simp only [Oj,D2 ha,if_true,A9 ha,A0,he],trivial⟩
  | false=>exact .inl (by simp only [Oj,D2 ha,if_true,A9 ha,A0,he,Bool.false_eq_true,if_false,E8 ha (by omega)])) ⟨.inl (),by simp  [Oj,if_false],trivial⟩
 cases x with
 | inl u=>exact⟨0,by simp  [B15,hx,D1]⟩
 | inr v=>exact⟨v,by simp  [B15,hx,D1]⟩
theorem Wm (a:Addr):∃ c,B13 a=some c:=by
 unfold B13;split<;>exact⟨_,rfl⟩
theorem Kx (x y:A7):∃ c,f80 x y=some c:=by
 obtain⟨c1,h1⟩:=Wm x.1;obtain⟨c2,h2⟩:=Wm y.1;obtain⟨c3,h3⟩:=A8p c1 c2;obtain⟨c4,h4⟩:=Wl x.1.2.1 y.1.2.1;obtain⟨c5,h5⟩:=Wl x.1.2.2 y.1.2.2;obtain⟨c6,h6⟩:=A8q [c3,c4,c5] (by simp);exact⟨c6,by simp  [f80,f81,h1,h2,h3,h4,h5,h6]⟩
theorem Eh {l:List A7} {i j:Nat} {a b:A7} (hi:l[i]? = some a) (hj:l[j]? = some b):((l.set i b).set j a).Perm l:=by
 obtain⟨h1,e1⟩:=List.getElem?_eq_some_iff.1 hi;obtain⟨h2,e2⟩:=List.getElem?_eq_some_iff.1 hj;have:=List.set_set_perm h1 h2;simp_all
theorem C5z {k:Nat} (h:1<=k) (h2:k<=1000000):w64 ((k:Int)-1)=((k-1:Nat):Int):=by rw [F8 (by omega) (by omega)];omega
theorem A5h {a:Nat} {l0:List A7} (hl0:l0.length<=1000) {j:Nat} (hj:j<l0.length) (ha:a<=j):∃ l',loopF (Ji (a:Int)) ((j:Int),l0)=some l'∧l'.Perm l0:=by
 refine L1 (tb:=Ji (a)) (Q:=λl'=>l'.Perm l0) (Inv:=λk s=>∃ (j:Nat) (l:List A7),s=((j:Int),l)∧l.Perm l0∧j<l0.length∧a<=j∧k=j) (λk s ⟨j,l,g1,g2,g3,g4,g5⟩ => ?_) (n:=j) (by omega) ⟨j,l0,rfl,.refl _,hj,ha,rfl⟩;subst g1 g5;have hlen:=g2.length_eq
 by_cases hlt:a<k
 ·have hd:decide ((a)<(k:Int))=true:=decide_eq_true (by omega);have hx:=List.getElem?_eq_getElem (show k<l.length by omega);have hy:=List.getElem?_eq_getElem (show k-1<l.length by omega);generalize hxe:l[k]=x at hx;generalize hye:l[k-1]=y at hy;obtain⟨c,hc⟩:=Kx x y;have hw:=C5z (k:=k) (by omega) (by omega)
  by_cases hc0:c<0
  ·have hz:(l.set k y)[k-1]? = some y:=by rw [List.getElem?_set_ne (by omega)];omega
   have hl1:decide ((l.set k y).length=l.length)=true:=by simp
   have hl2:decide (((l.set k y).set (k-1) x).length=l.length)=true:=by simp
   refine .inr ⟨(((k-1:Nat)),(l.set k y).set (k-1) x),k-1,by omega,?_,k-1,_,rfl,(Eh hx hy).trans g2,by omega,by omega,rfl⟩;simp only [Ji,hd,if_true,A9 hx,A0,hw,A9 hy,hc,decide_eq_true hc0,Int.toNat_natCast,B5 hl1,A9 hz,B5 hl2]
  ·refine .inl ⟨l,?_,g2⟩;simp only [Ji,hd,if_true,A9 hx,A0,hw,A9 hy,hc,decide_eq_false hc0,Bool.false_eq_true,if_false]
 ·have hd:decide ((a)<(k:Int))=false:=decide_eq_false (by omega);exact .inl ⟨l,by simp only [Ji,hd,Bool.false_eq_true,if_false],g2⟩
theorem A2w {a b:Nat} {l0:List A7} (hl0:l0.length<=1000) (ha:a<=1000) (hb:b<=l0.length):∃ l',f197 (a:Int) (b:Int) l0=some l'∧l'.Perm l0:=by
 by_cases hab:a+1<=b
 ·obtain⟨l',h1,h2⟩:=L1 (tb:=Jj (a) (b)) (Q:=λl'=>l'.Perm l0) (Inv:=λk s=>∃ (i:Nat) (l:List A7),s=((i:Int),l)∧l.Perm l0∧a<=i∧i<=b∧k=b-i) (λk s ⟨i,l,g1,g2,g3,g4,g5⟩=>by
   subst g1 g5;have hlen:=g2.length_eq
   by_cases hlt:i<b
   ·have hd:decide ((i)<(b:Int))=true:=decide_eq_true (by omega);obtain⟨l',q1,q2⟩:=A5h (a:=a) (l0:=l) (by omega) (j:=i) (by omega) g3;refine .inr ⟨(((i+1:Nat)),l'),b-(i+1),by omega,?_,i+1,l',rfl,q2.trans g2,by omega,by omega,rfl⟩;simp only [Jj,hd,if_true,q1,A0,K0 (show i<=4611686018427387904 by omega)]
   ·have hd:decide ((i)<(b:Int))=false:=decide_eq_false (by omega);exact .inl ⟨l,by simp only [Jj,hd,Bool.false_eq_true,if_false],g2⟩) (n:=b-(a+1)) (by omega) (s:=(((a+1:Nat)),l0)) ⟨a+1,l0,rfl,.refl _,by omega,by omega,rfl⟩
  exact⟨l',by simp only [f197,K0 (show a<=4611686018427387904 by omega),h1,A0],h2⟩
 ·have hd:decide (((a+1:Nat))<(b:Int))=false:=decide_eq_false (by omega);have:loopF (Jj (a) (b)) (((a+1:Nat)),l0)=some l0:=M5 (n:=1) (by simp) (by simp only [K5,Jj,hd,Bool.false_eq_true,if_false,A0]);exact⟨l0,by simp only [f197,K0 (show a<=4611686018427387904 by omega),this,A0],.refl _⟩
theorem Su {a b n:Nat} {l0:List A7} (hl0:l0.length<=1000) (ha:a+n<=l0.length) (hb:b+n<=l0.length):∃ l',A69 (a:Int) (b:Int) (n:Int) l0=some l'∧l'.Perm l0:=by
 obtain⟨l',h1,h2⟩:=L1 (tb:=Uh (a) (b) (n)) (Q:=λl'=>l'.Perm l0) (Inv:=λk s=>∃ (i:Nat) (l:List A7),s=((i:Int),l)∧l.Perm l0∧i<=n∧k=n-i) (λk s ⟨i,l,g1,g2,g3,g5⟩=>by
  subst g1 g5;have hlen:=g2.length_eq
  by_cases hlt:i<n
  ·have hd:decide ((i)<(n:Int))=true:=decide_eq_true (by omega);have wa:w64 ((a)+(i))=((a+i:Nat)):=by rw [F8 (by omega) (by omega)];omega
   have wb:w64 ((b)+(i))=((b+i:Nat)):=by rw [F8 (by omega) (by omega)];omega
   have hx:=List.getElem?_eq_getElem (show a+i<l.length by omega);have hy:=List.getElem?_eq_getElem (show b+i<l.length by omega);generalize l[a+i]=x at hx;generalize l[b+i]=y at hy;have hz:∃ z,(l.set (a+i) y)[b+i]? = some z:=⟨_,List.getElem?_eq_getElem (by rw [List.length_set];omega)⟩;obtain⟨z,hz⟩:=hz;have hl1:decide ((l.set (a+i) y).length=l.length)=true:=by simp
   have hl2:decide (((l.set (a+i) y).set (b+i) x).length=l.length)=true:=by simp
   refine .inr ⟨(((i+1:Nat)),(l.set (a+i) y).set (b+i) x),n-(i+1),by omega,?_,i+1,_,rfl,(Eh hx hy).trans g2,by omega,rfl⟩;simp only [Uh,hd,if_true,wa,wb,A9 hx,A9 hy,A0,Int.toNat_natCast,B5 hl1,A9 hz,B5 hl2,K0 (show i<=4611686018427387904 by omega)]
  ·have hd:decide ((i)<(n:Int))=false:=decide_eq_false (by omega);exact .inl ⟨l,by simp only [Uh,hd,Bool.false_eq_true,if_false],g2⟩) (n:=n) (by omega) (s:=(0,l0)) ⟨0,l0,rfl,.refl _,by omega,rfl⟩
 exact⟨l',by simp  [A69,h1],h2⟩
theorem B3g {a m b:Nat} {l0:List A7} (hl0:l0.length<=1000) (h1:a<m) (h2:m<b) (hb:b<=l0.length):∃ l',A6a (a:Int) (m:Int) (b:Int) l0=some l'∧l'.Perm l0:=by
 have wd:∀ x y:Nat,y<=x->x<=100000->w64 ((x)-(y))=((x-y:Nat)):=λx y h1 h2=>by rw [F8 (by omega) (by omega)];omega
 obtain⟨r,e1,i,l,rfl,g2,g3,g4⟩:=L1 (tb:=Ol (m)) (Q:=λr=>∃ (i:Nat) (l:List A7),r=((i:Int),l)∧l.Perm l0∧i<=m∧m+i<=l0.length) (Inv:=λk s=>∃ (i j:Nat) (l:List A7),s=((i:Int),(j:Int),l)∧l.Perm l0∧1<=i∧1<=j∧i<=m∧m+j<=l0.length∧k=i+j) (λk s ⟨i,j,l,g1,g2,g3,g4,g5,g6,g7⟩=>by
  subst g1 g7;have hlen:=g2.length_eq;have wmi:=wd m i g5 (by omega)
  by_cases he:i=j
  ·subst he;have hd:(((i) != (i:Int)))=false:=by simp
   exact .inl ⟨((i),l),by simp  [Ol,if_false],i,l,rfl,g2,g5,g6⟩
  ·have hd:(((i) != (j:Int)))=true:=bne_iff_ne.2 (by omega)
   by_cases hlt:j<i
   ·have hd2:decide ((j:Int)<(i:Int))=true:=decide_eq_true (by omega);obtain⟨l',q1,q2⟩:=Su (a:=m-i) (b:=m) (n:=j) (l0:=l) (by omega) (by omega) (by omega);have hl2:decide (l'.length=l.length)=true:=decide_eq_true q2.length_eq;refine .inr ⟨(((i-j:Nat):Int),(j:Int),l'),i-j+j,by omega,?_,i-j,j,l',rfl,q2.trans g2,by omega,g4,by omega,g6,rfl⟩;simp only [Ol,hd,if_true,hd2,wmi,q1,A0,B5 hl2,wd i j (by omega) (by omega)]
   ·have hd2:decide ((j:Int)<(i:Int))=false:=decide_eq_false (by omega);obtain⟨l',q1,q2⟩:=Su (a:=m-i) (b:=m+j-i) (n:=i) (l0:=l) (by omega) (by omega) (by omega);have hl2:decide (l'.length=l.length)=true:=decide_eq_true q2.length_eq;have ws:w64 ((m:Int)+(j:Int))=((m+j:Nat):Int):=by rw [F8 (by omega) (by omega)];omega
    refine .inr ⟨((i:Int),((j-i:Nat):Int),l'),i+(j-i),by omega,?_,i,j-i,l',rfl,q2.trans g2,g3,by omega,g5,by omega,rfl⟩;simp only [Ol,hd,if_true,hd2,Bool.false_eq_true,if_false,wmi,ws,wd (m+j) i (by omega) (by omega),q1,A0,B5 hl2,wd j i (by omega) (by omega)]) (n:=m-a+(b-m)) (by omega) (s:=(((m-a:Nat):Int),((b-m:Nat):Int),l0)) ⟨m-a,b-m,l0,rfl,.refl _,by omega,by omega,by omega,by omega,rfl⟩
 have hlen:=g2.length_eq;obtain⟨l',q1,q2⟩:=Su (a:=m-i) (b:=m) (n:=i) (l0:=l) (by omega) (by omega) (by omega);refine⟨l',?_,q2.trans g2⟩;simp only [A6a,wd m a (by omega) (by omega),wd b m (by omega) (by omega),e1,A0,wd m i (by omega) (by omega),q1]
end Go.Top
namespace Go.Top
open Go Go.Vc
theorem B3h:(List.range 100).all (λs=>w64 (H5 .u64 (IntKind.u64.wrap (w64 (s:Int))) 1)==((s / 2:Nat):Int))=true:=by rfl
theorem Sv {a b:Nat} (h:a+b<100):w64 (H5 .u64 (IntKind.u64.wrap (w64 ((a:Int)+(b:Int)))) 1)=(((a+b) / 2:Nat):Int):=by
 have:=eq_of_beq (M6 B3h h);simp_all
theorem A6g {x y:Nat} (h1:y<=x) (h2:x<=100000):w64 ((x:Int)-(y:Int))=((x-y:Nat):Int):=by rw [F8 (by omega) (by omega)];omega
theorem B95 {x y:Nat} (h1:x<=100000) (h2:y<=100000):w64 ((x:Int)+(y:Int))=((x+y:Nat):Int):=by rw [F8 (by omega) (by omega)];omega
theorem B1p {x:Nat} (h1:1<=x) (h2:x<=100000):w64 ((x:Int)-1)=((x-1:Nat):Int):=A6g (y:=1) h1 h2
theorem B9u {a m b:Nat} {l:List A7} (hl:l.length<=40) (ha:a<l.length) (hm:m<=b) (hb:b<=l.length):∃ x:Nat,loopF (Ej (a:Int) l) ((m:Int),(b:Int))=some (x:Int)∧m<=x∧x<=b:=by
 obtain⟨r,e,x,rfl,h1,h2⟩:=L1 (tb:=Ej (a) l) (Q:=λr=>∃ x:Nat,r=(x)∧m<=x∧x<=b) (Inv:=λk s=>∃ i j:Nat,s=((i:Int),(j:Int))∧m<=i∧i<=j∧j<=b∧k=j-i) (λk s ⟨i,j,g1,g2,g3,g4,g5⟩=>by
  subst g1 g5
  by_cases hlt:i<j
  ·have hd:decide ((i)<(j:Int))=true:=decide_eq_true (by omega);have hmid:=Sv (a:=i) (b:=j) (by omega);have hx:=List.getElem?_eq_getElem (show(i+j) / 2<l.length by omega);have hy:=List.getElem?_eq_getElem ha;obtain⟨c,hc⟩:=Kx l[(i+j) / 2] l[a]
   by_cases hc0:c<0
   ·exact .inr ⟨((((i+j) / 2+1:Nat)),(j)),j-((i+j) / 2+1),by omega,by
     simp only [Ej,hd,if_true,hmid,A9 hx,A9 hy,A0,hc,decide_eq_true hc0,K0 (show(i+j) / 2<=4611686018427387904 by omega)],(i+j) / 2+1,j,rfl,by omega,by omega,g4,rfl⟩
   ·exact .inr ⟨((i),(((i+j) / 2:Nat))),(i+j) / 2-i,by omega,by
     simp only [Ej,hd,if_true,hmid,A9 hx,A9 hy,A0,hc,decide_eq_false hc0,Bool.false_eq_true,if_false],i,(i+j) / 2,rfl,g2,by omega,by omega,rfl⟩
  ·have hd:decide ((i)<(j:Int))=false:=decide_eq_false (by omega);exact .inl ⟨(i),by simp only [Ej,hd,Bool.false_eq_true,if_false],i,rfl,g2,by omega⟩) (n:=b-m) (by omega) (s:=((m),(b))) ⟨m,b,rfl,Nat.le_refl _,hm,Nat.le_refl _,rfl⟩
 exact⟨x,e,h1,h2⟩
theorem B9v {a m:Nat} {l:List A7} (hl:l.length<=40) (hm:m<l.length) (ha:a<=m):∃ x:Nat,loopF (Ek (m:Int) l) ((a:Int),(m:Int))=some (x:Int)∧a<=x∧x<=m:=by
 obtain⟨r,e,x,rfl,h1,h2⟩:=L1 (tb:=Ek (m) l) (Q:=λr=>∃ x:Nat,r=(x)∧a<=x∧x<=m) (Inv:=λk s=>∃ i j:Nat,s=((i:Int),(j:Int))∧a<=i∧i<=j∧j<=m∧k=j-i) (λk s ⟨i,j,g1,g2,g3,g4,g5⟩=>by
  subst g1 g5
  by_cases hlt:i<j
  ·have hd:decide ((i)<(j:Int))=true:=decide_eq_true (by omega);have hmid:=Sv (a:=i) (b:=j) (by omega);have hx:=List.getElem?_eq_getElem (show(i+j) / 2<l.length by omega);have hy:=List.getElem?_eq_getElem hm;obtain⟨c,hc⟩:=Kx l[m] l[(i+j) / 2]
   by_cases hc0:c<0
   ·exact .inr ⟨((i),(((i+j) / 2:Nat))),(i+j) / 2-i,by omega,by
     simp only [Ek,hd,if_true,hmid,A9 hx,A9 hy,A0,hc,decide_eq_true hc0,Bool.not_true,Bool.false_eq_true,if_false],i,(i+j) / 2,rfl,g2,by omega,by omega,rfl⟩
   ·exact .inr ⟨((((i+j) / 2+1:Nat)),(j)),j-((i+j) / 2+1),by omega,by
     simp only [Ek,hd,if_true,hmid,A9 hx,A9 hy,A0,hc,decide_eq_false hc0,Bool.not_false,K0 (show(i+j) / 2<=4611686018427387904 by omega)],(i+j) / 2+1,j,rfl,by omega,by omega,g4,rfl⟩
  ·have hd:decide ((i)<(j:Int))=false:=decide_eq_false (by omega);exact .inl ⟨(i),by simp only [Ek,hd,Bool.false_eq_true,if_false],i,rfl,g2,by omega⟩) (n:=m-a) (by omega) (s:=((a),(m))) ⟨a,m,rfl,Nat.le_refl _,ha,Nat.le_refl _,rfl⟩
 exact⟨x,e,h1,h2⟩
theorem B4u {m mid s0 r0:Nat} {l:List A7} (hl:l.length<=40) (hmid:mid<=l.length) (hm:1<=m) (hm2:m<=l.length) (hsr:s0<=r0) (hr:r0<=l.length) (hp:∀ c,s0<=c->c<r0->c+1<=mid+m∧mid+m-1-c<l.length) {y:Int} (hy:w64 y=(mid:Int)) :
  ∃ x:Nat,loopF (Aw (m:Int) l y) ((s0:Int),(r0:Int))=some (x:Int)∧s0<=x∧x<=r0:=by
 obtain⟨r,e,x,rfl,h1,h2⟩:=L1 (tb:=Aw (m) l y) (Q:=λr=>∃ x:Nat,r=(x)∧s0<=x∧x<=r0) (Inv:=λk s=>∃ i j:Nat,s=((i:Int),(j:Int))∧s0<=i∧i<=j∧j<=r0∧k=j-i) (λk s ⟨i,j,g1,g2,g3,g4,g5⟩=>by
  subst g1 g5
  by_cases hlt:i<j
  ·have hd:decide ((i)<(j:Int))=true:=decide_eq_true (by omega);have hmd:=Sv (a:=i) (b:=j) (by omega);have hc1:=hp ((i+j) / 2) (by omega) (by omega);have hx:=List.getElem?_eq_getElem hc1.2;have hz:=List.getElem?_eq_getElem (show(i+j) / 2<l.length by omega);obtain⟨c,hc⟩:=Kx l[mid+m-1-(i+j) / 2] l[(i+j) / 2];have w1:w64 ((w64 y)+(m))=((mid+m)):=by rw [hy];exact B95 (by omega) (by omega)
   have w2:w64 (w64 ((w64 y)+(m))-1)=((mid+m-1:Nat)):=by rw [w1];exact B1p (by omega) (by omega)
   have w3:w64 ((w64 (w64 ((w64 y)+(m))-1))-(((i+j) / 2:Nat)))=((mid+m-1-(i+j) / 2:Nat)):=by rw [w2];exact A6g (by omega) (by omega)
   by_cases hc0:c<0
   ·exact .inr ⟨((i:Int),(((i+j) / 2:Nat):Int)),(i+j) / 2-i,by omega,by
     simp only [Aw,hd,if_true,w3,hmd,A9 hx,A9 hz,A0,hc,decide_eq_true hc0,Bool.not_true,Bool.false_eq_true,if_false],i,(i+j) / 2,rfl,g2,by omega,by omega,rfl⟩
   ·exact .inr ⟨((((i+j) / 2+1:Nat):Int),(j:Int)),j-((i+j) / 2+1),by omega,by
     simp only [Aw,hd,if_true,w3,hmd,A9 hx,A9 hz,A0,hc,decide_eq_false hc0,Bool.not_false,K0 (show(i+j) / 2<=4611686018427387904 by omega)],(i+j) / 2+1,j,rfl,by omega,by omega,g4,rfl⟩
  ·have hd:decide ((i:Int)<(j:Int))=false:=decide_eq_false (by omega);exact .inl ⟨(i:Int),by simp only [Aw,hd,Bool.false_eq_true,if_false],i,rfl,g2,by omega⟩) (n:=r0-s0) (by omega) (s:=((s0:Int),(r0:Int))) ⟨s0,r0,rfl,Nat.le_refl _,hsr,Nat.le_refl _,rfl⟩
 exact⟨x,e,h1,h2⟩
theorem B9w {x a:Nat} {l0:List A7} (hl0:l0.length<=40) (hx:x<=l0.length) (hx1:1<=x) (hax:a<=40):∃ l',loopF (Hg (x:Int)) ((a:Int),l0)=some l'∧l'.Perm l0:=by
 refine L1 (tb:=Hg (x)) (Q:=λl'=>l'.Perm l0) (Inv:=λk s=>∃ (j:Nat) (l:List A7),s=((j:Int),l)∧l.Perm l0∧j<=80∧k=80-j) (λk s ⟨j,l,g1,g2,g3,g4⟩ => ?_) (n:=80-a) (by omega) ⟨a,l0,rfl,.refl _,by omega,rfl⟩;subst g1 g4;have hlen:=g2.length_eq;have hw:=B1p hx1 (by omega)
 by_cases hlt:j<x-1
 ·have hd:decide ((j)<((x-1:Nat):Int))=true:=decide_eq_true (by omega);have hs:w64 ((j)+1)=((j+1:Nat)):=K0 (by omega);have h1:=List.getElem?_eq_getElem (show j+1<l.length by omega);have h2:=List.getElem?_eq_getElem (show j<l.length by omega);generalize l[j+1]=p at h1;generalize l[j]=q at h2;have hz:(l.set j p)[j+1]? = some p:=by simp [*]
  have hl1:decide ((l.set j p).length=l.length)=true:=by simp
  have hl2:decide (((l.set j p).set (j+1) q).length=l.length)=true:=by simp
  exact .inr ⟨(((j+1:Nat)),(l.set j p).set (j+1) q),80-(j+1),by omega,by
   simp only [Hg,hw,hd,if_true,hs,A9 h1,A9 h2,A0,Int.toNat_natCast,B5 hl1,A9 hz,B5 hl2],j+1,_,rfl,(Eh h2 h1).trans g2,by omega,rfl⟩
 ·have hd:decide ((j)<((x-1:Nat):Int))=false:=decide_eq_false (by omega);exact .inl ⟨l,by simp only [Hg,hw,hd,Bool.false_eq_true,if_false],g2⟩
theorem B9x {x m:Nat} {l0:List A7} (hl0:l0.length<=40) (hm:m<l0.length):∃ l',loopF (Hh (x:Int)) ((m:Int),l0)=some l'∧l'.Perm l0:=by
 refine L1 (tb:=Hh (x)) (Q:=λl'=>l'.Perm l0) (Inv:=λk s=>∃ (j:Nat) (l:List A7),s=((j:Int),l)∧l.Perm l0∧j<=m∧k=j) (λk s ⟨j,l,g1,g2,g3,g4⟩ => ?_) (n:=m) (by omega) ⟨m,l0,rfl,.refl _,Nat.le_refl _,rfl⟩;subst g1 g4;have hlen:=g2.length_eq
 by_cases hlt:x<k
 ·have hd:decide ((x)<(k:Int))=true:=decide_eq_true (by omega);have hs:=B1p (x:=k) (by omega) (by omega);have h1:=List.getElem?_eq_getElem (show k-1<l.length by omega);have h2:=List.getElem?_eq_getElem (show k<l.length by omega);generalize l[k-1]=p at h1;generalize l[k]=q at h2;have hz:(l.set k p)[k-1]? = some p:=by rw [List.getElem?_set_ne (by omega)];omega
  have hl1:decide ((l.set k p).length=l.length)=true:=by simp
  have hl2:decide (((l.set k p).set (k-1) q).length=l.length)=true:=by simp
  exact .inr ⟨(((k-1:Nat)),(l.set k p).set (k-1) q),k-1,by omega,by
   simp only [Hh,hd,if_true,hs,A9 h1,A9 h2,A0,Int.toNat_natCast,B5 hl1,A9 hz,B5 hl2],k-1,_,rfl,(Eh h2 h1).trans g2,by omega,rfl⟩
 ·have hd:decide ((x)<(k:Int))=false:=decide_eq_false (by omega);exact .inl ⟨l,by simp only [Hh,hd,Bool.false_eq_true,if_false],g2⟩
end Go.Top
namespace Go.Top
open Go Go.Vc
theorem A8r {n:Nat} (ih:∀ (a m b:Nat) (l:List A7),l.length<=40->a<m->m<b->b<=l.length->b-a<=n->∃ l',Ui n (a:Int) (m:Int) (b:Int) l=some l'∧l'.Perm l)
  {a m b:Nat} {l:List A7} (hl:l.length<=40) (h1:a<m) (h2:m<b) (hb:b<=l.length) (hn:b-a<=n+1):∃ l',Xt (Ui n) (a:Int) (m:Int) (b:Int) l=some l'∧l'.Perm l:=by
 have wma:=A6g (x:=m) (y:=a) (by omega) (by omega);have wbm:=A6g (x:=b) (y:=m) (by omega) (by omega);have eqn:∀ k:Nat,(((k:Int)==1))=decide (k=1):=λk=>by
  by_cases h:k=1
  ·subst h;rfl
  ·rw [decide_eq_false h];exact beq_eq_false_iff_ne.2 (by omega)
 by_cases c1:m-a=1
 ·have d1:=(eqn (m-a)).trans (decide_eq_true c1);obtain⟨x,e1,x1,x2⟩:=B9u (a:=a) (m:=m) (b:=b) hl (by omega) (by omega) hb;obtain⟨l',e2,p2⟩:=B9w (x:=x) (a:=a) hl (by omega) (by omega) (by omega);exact⟨l',by simp only [Xt,wma,d1,if_true,e1,e2,A0],p2⟩
 ·have d1:=(eqn (m-a)).trans (decide_eq_false c1)
  by_cases c2:b-m=1
  ·have d2:=(eqn (b-m)).trans (decide_eq_true c2);obtain⟨x,e1,x1,x2⟩:=B9v (a:=a) (m:=m) hl (by omega) (by omega);obtain⟨l',e2,p2⟩:=B9x (x:=x) (m:=m) hl (by omega);exact⟨l',by simp only [Xt,wma,wbm,d1,d2,Bool.false_eq_true,if_false,if_true,e1,e2,A0],p2⟩
  ·have d2:=(eqn (b-m)).trans (decide_eq_false c2);have hmid:=Sv (a:=a) (b:=b) (by omega);generalize hy:H5 .u64 (IntKind.u64.wrap (w64 ((a:Int)+(b:Int)))) 1=y at hmid;generalize hq:(a+b) / 2=mid at hmid;have q1:a<mid:=by omega
   have q2:mid<b:=by omega
   have wn:w64 (w64 y+(m:Int))=((mid+m:Nat):Int):=by rw [hmid];exact B95 (by omega) (by omega)
   have search:∃ x:Nat,(mid<m->loopF (Aw (m:Int) l y) (((mid+m-b:Nat):Int),(mid:Int))=some (x:Int))∧(¬ mid<m->loopF (Aw (m:Int) l y) ((a:Int),(m:Int))=some (x:Int))∧a<=x∧x<=m∧x<=mid∧mid+m-x<=b∧mid<=mid+m-x:=by
    by_cases hc:mid<m
    ·obtain⟨x,e,x1,x2⟩:=B4u (m:=m) (mid:=mid) (s0:=mid+m-b) (r0:=mid) hl (by omega) (by omega) (by omega) (by omega) (by omega) (λc hc1 hc2=>⟨by omega,by omega⟩) hmid;exact⟨x,λ_=>e,λh=>absurd hc h,by omega,by omega,by omega,by omega,by omega⟩
    ·obtain⟨x,e,x1,x2⟩:=B4u (m:=m) (mid:=mid) (s0:=a) (r0:=m) hl (by omega) (by omega) (by omega) (by omega) (by omega) (λc hc1 hc2=>⟨by omega,by omega⟩) hmid;exact⟨x,λh=>absurd h hc,λ_=>e,by omega,by omega,by omega,by omega,by omega⟩
   obtain⟨x,e4,e4',x1,x2,x3,x4,x5⟩:=search;have we:w64 (((mid+m:Nat):Int)-(x:Int))=((mid+m-x:Nat):Int):=A6g (by omega) (by omega);have rot:∃ l1,l1.Perm l∧(x<m->m<mid+m-x->A6a (x:Int) (m:Int) ((mid+m-x:Nat):Int) l=some l1)∧(¬ (x<m∧m<mid+m-x)->l1=l):=by
    by_cases hc:x<m∧m<mid+m-x
    ·obtain⟨l1,r1,r2⟩:=B3g (a:=x) (m:=m) (b:=mid+m-x) (l0:=l) (by omega) hc.1 hc.2 (by omega);exact⟨l1,r2,λ_ _=>r1,λhno=>absurd hc hno⟩
    ·exact⟨l,.refl _,λq1 q2=>absurd ⟨q1,q2⟩ hc,λ_=>rfl⟩
   obtain⟨l1,p1,rt,rf⟩:=rot;have len1:=p1.length_eq;have left:∃ l2,l2.Perm l1∧(a<x->x<mid->Ui n (a:Int) (x:Int) (mid:Int) l1=some l2)∧(¬ (a<x∧x<mid)->l2=l1):=by
    by_cases hc:a<x∧x<mid
    ·obtain⟨l2,r1,r2⟩:=ih a x mid l1 (by omega) hc.1 hc.2 (by omega) (by omega);exact⟨l2,r2,λ_ _=>r1,λhno=>absurd hc hno⟩
    ·exact⟨l1,.refl _,λq1 q2=>absurd ⟨q1,q2⟩ hc,λ_=>rfl⟩
   obtain⟨l2,p2,lt,lf⟩:=left;have len2:=p2.length_eq;have right:∃ l3,l3.Perm l2∧(mid<mid+m-x->mid+m-x<b->Ui n (mid:Int) ((mid+m-x:Nat):Int) (b:Int) l2=some l3)∧(¬ (mid<mid+m-x∧mid+m-x<b)->l3=l2):=by
    by_cases hc:mid<mid+m-x∧mid+m-x<b
    ·obtain⟨l3,r1,r2⟩:=ih mid (mid+m-x) b l2 (by omega) hc.1 hc.2 (by omega) (by omega);exact⟨l3,r2,λ_ _=>r1,λhno=>absurd hc hno⟩
    ·exact⟨l2,.refl _,λq1 q2=>absurd ⟨q1,q2⟩ hc,λ_=>rfl⟩
   obtain⟨l3,p3,gt,gf⟩:=right;refine⟨l3,?_,p3.trans (p2.trans p1)⟩;have cl1:decide (l1.length=l.length)=true:=decide_eq_true len1;have cl2:decide (l2.length=l1.length)=true:=decide_eq_true len2;generalize hE:mid+m-x=e at we rt rf gt gf;have part3:(if decide ((mid:Int)<(e:Int))=true then (if decide ((e:Int)<(b:Int))=true then (Ui n (mid:Int) (e:Int) (b:Int) l2).bind λx52=>some x52 else some l2) else some l2)=some l3:=by
    by_cases k1:mid<e
    ·rw [if_pos (decide_eq_true (show(mid:Int)<(e:Int) by omega))]
     by_cases k2:e<b
     ·rw [if_pos (decide_eq_true (show(e:Int)<(b:Int) by omega)),gt k1 k2];rfl
     ·rw [if_neg (by rw [decide_eq_true_eq];omega),gf λh=>k2 h.2]
    ·rw [if_neg (by rw [decide_eq_true_eq];omega),gf λh=>k1 h.1]
   have part2:∀ K:List A7->Option (List A7),K l2=some l3->(if decide ((a:Int)<(x:Int))=true then (if decide ((x:Int)<(mid:Int))=true then (Ui n (a:Int) (x:Int) (mid:Int) l1).bind λx58=>Vc.chk (decide (x58.length=l1.length)) (K x58) else K l1) else K l1)=some l3:=λK hK=>by
    by_cases k1:a<x
    ·rw [if_pos (decide_eq_true (show(a:Int)<(x:Int) by omega))]
     by_cases k2:x<mid
     ·rw [if_pos (decide_eq_true (show(x:Int)<(mid:Int) by omega)),lt k1 k2,A0,B5 cl2];exact hK
     ·rw [if_neg (by rw [decide_eq_true_eq];omega),<- lf λh=>k2 h.2];exact hK
    ·rw [if_neg (by rw [decide_eq_true_eq];omega),<- lf λh=>k1 h.1];exact hK
   have part1:∀ K:List A7->Option (List A7),K l1=some l3->(if decide ((x:Int)<(m:Int))=true then (if decide ((m:Int)<(e:Int))=true then (A6a (x:Int) (m:Int) (e:Int) l).bind λx62=>Vc.chk (decide (x62.length=l.length)) (K x62) else K l) else K l)=some l3:=λK hK=>by
    by_cases k1:x<m
    ·rw [if_pos (decide_eq_true (show(x:Int)<(m:Int) by omega))]
     by_cases k2:m<e
     ·rw [if_pos (decide_eq_true (show(m:Int)<(e:Int) by omega)),rt k1 k2,A0,B5 cl1];exact hK
     ·rw [if_neg (by rw [decide_eq_true_eq];omega),<- rf λh=>k2 h.2];exact hK
    ·rw [if_neg (by rw [decide_eq_true_eq];omega),<- rf λh=>k1 h.1];exact hK
   simp only [Xt,wma,wbm,d1,d2,Bool.false_eq_true,if_false,hy,P9,hmid];have wn:w64 ((mid:Int)+(m:Int))=((mid+m:Nat):Int):=B95 (by omega) (by omega)
   by_cases hc:mid<m
   ·have hd:decide ((mid:Int)<(m:Int))=true:=decide_eq_true (by omega);have ws:w64 (((mid+m:Nat):Int)-(b:Int))=((mid+m-b:Nat):Int):=A6g (by omega) (by omega);simp only [hd,if_true,wn,ws,e4 hc,A0,we];exact part1 _ (part2 _ part3)
   ·have hd:decide ((mid:Int)<(m:Int))=false:=decide_eq_false (by omega);simp only [hd,Bool.false_eq_true,if_false,wn,e4' hc,A0,we];exact part1 _ (part2 _ part3)
theorem A8s:∀ (n a m b:Nat) (l:List A7),l.length<=40->a<m->m<b->b<=l.length->b-a<=n->∃ l',Ui n (a:Int) (m:Int) (b:Int) l=some l'∧l'.Perm l
 | 0,a,m,b,l,_,h1,h2,_,h=>by omega
 | n+1,a,m,b,l,hl,h1,h2,hb,hn=>A8r (n:=n) (λa m b l=>A8s n a m b l) hl h1 h2 hb hn
theorem A8t {a m b:Nat} {l:List A7} (hl:l.length<=40) (h1:a<m) (h2:m<b) (hb:b<=l.length):∃ l',A3i (a:Int) (m:Int) (b:Int) l=some l'∧l'.Perm l:=A8s 40 a m b l hl h1 h2 hb (by omega)
theorem B6d {l:List A7} (hl:l.length<=28):∃ l',f79 l=some l'∧l'.Perm l:=by
 have blocks:∃ (a:Nat) (l1:List A7),loopF (Fp (l.length)) (0,20,l)=some ((a:Int),l1)∧l1.Perm l∧a<=20:=by
  by_cases h:20<=l.length
  ·obtain⟨l1,r1,r2⟩:=A2w (a:=0) (b:=20) (l0:=l) (by omega) (by omega) h;have r1:f197 0 20 l=some l1:=r1;have hd:decide ((20)<=(l.length:Int))=true:=decide_eq_true (by omega);have hd2:decide ((40)<=(l.length:Int))=false:=decide_eq_false (by omega);have hl1:=decide_eq_true r2.length_eq;refine⟨20,l1,M5 (n:=2) (by simp) ?_,r2,by omega⟩;have s1:Fp (l.length) (0,20,l)=some (.inr (20,40,l1)):=by
    simp  [Fp,hd,r1,B5 hl1];rfl
   have s2:Fp (l.length) (20,40,l1)=some (.inl (20,l1)):=by
    simp  [Fp,hd2,if_false]
   rw [K5,s1];show K5 _ 1 _=_;rw [K5,s2];rfl
  ·have hd:decide ((20)<=(l.length:Int))=false:=decide_eq_false (by omega);exact⟨0,l,M5 (n:=1) (by simp) (by simp only [K5,Fp,hd,A0];rfl),.refl _,by omega⟩
 obtain⟨a,l1,b1,b2,b3⟩:=blocks;have len1:=b2.length_eq;obtain⟨l2,c1,c2⟩:=A2w (a:=a) (b:=l.length) (l0:=l1) (by omega) (by omega) (by omega);have len2:=c2.length_eq;have hl2:=decide_eq_true len2;have merge:∃ l3,loopF (Fq (l.length)) (20,l2)=some l3∧l3.Perm l2:=by
  by_cases h:20<l.length
  ·obtain⟨l3,r1,r2⟩:=A8t (a:=0) (m:=20) (b:=l.length) (l:=l2) (by omega) (by omega) h (by omega);have r1:A3i 0 20 (l.length) l2=some l3:=r1;have hd:decide ((20)<(l.length:Int))=true:=decide_eq_true (by omega);have hd2:decide ((40)<(l.length:Int))=false:=decide_eq_false (by omega);have hd3:decide ((40)<=(l.length:Int))=false:=decide_eq_false (by omega);have hl3:=decide_eq_true r2.length_eq;have in0:loopF (A1f (l.length) (20,l2)) (0,40,l2)=some (0,l2):=M5 (n:=1) (by simp) (by
    simp  [K5,A1f,hd3,A0])
   have s1:Fq (l.length) (20,l2)=some (.inr (40,l3)):=by
    simp only [Fq,hd,if_true,show w64 (2*20)=40 from rfl,in0,A0,show w64 (0+20)=20 from rfl,r1,B5 hl3,show w64 (20*2)=40 from rfl]
   have s2:Fq (l.length) (40,l3)=some (.inl l3):=by
    simp  [Fq,hd2,if_false]
   refine⟨l3,M5 (n:=2) (by simp) ?_,r2⟩;rw [K5,s1];show K5 _ 1 _=_;rw [K5,s2];rfl
  ·have hd:decide ((20:Int)<(l.length:Int))=false:=decide_eq_false (by omega);exact⟨l2,M5 (n:=1) (by decide) (by simp only [K5,Fq,hd,Bool.false_eq_true,if_false,A0]),.refl _⟩
 obtain⟨l3,e1,e2⟩:=merge;exact⟨l3,by simp only [f79,B8d,b1,A0,c1,B5 hl2,e1],e2.trans (c2.trans b2)⟩
end Go.Top
namespace Go.Top
open Go Go.Vc
def A1m (p:B1):MAC:=p.2.2.2.1.headD []
def Fr (p:B1):List A7:=(R9 p.2.2.2.2.1++R9 p.2.2.2.2.2).map λa=>(a,A1m p,p.1)
def T5 (l:List B1):List A7:=(l.map Fr).flatten
theorem W6 (a:Addr):(R9 a).length<=1:=by unfold R9;split<;>simp
theorem Zx (p:B1):(Fr p).length<=2:=by
 have h1:=W6 p.2.2.2.2.1;have h2:=W6 p.2.2.2.2.2;simp  [Fr,List.length_append];omega
theorem Cf:∀ l:List B1,(T5 l).length<=2*l.length
 | []=>by simp [T5]
 | p :: l=>by
  have ih:=Cf l;have:=Zx p;simp  [T5,List.length_cons] at ih ⊢;omega
theorem B9y {p:B1} (hm:1<=(pmacs p).length) {acc:List A7} (ha:acc.length<=1000):loopF (Xu p (R9 p.2.2.2.2.1) (R9 p.2.2.2.2.2)) (0,acc)=some (acc++Fr p):=by
 have h1:=W6 p.2.2.2.2.1;have h2:=W6 p.2.2.2.2.2;generalize hl:R9 p.2.2.2.2.1++R9 p.2.2.2.2.2=aa;have hlen:aa.length<=2:=by rw [<- hl,List.length_append];omega
 have hm0:idx p.2.2.2.1 0=some (A1m p):=by
  have:pmacs p=p.2.2.2.1:=rfl;rw [this] at hm;unfold A1m
  match p.2.2.2.1,hm with
  | x :: r,_=>rfl
 have:=C7 (tb:=Xu p (R9 p.2.2.2.2.1) (R9 p.2.2.2.2.2)) (x:=acc++Fr p) (λi=>((i),acc++(aa.take i).map λa=>(a,A1m p,p.1))) aa.length (by omega) (λi hi=>by
  have hat:=List.getElem?_eq_getElem hi;generalize aa[i]=a at hat;have hq:(acc++(aa.take i).map (λa=>((a,A1m p,p.1)))++[(a,A1m p,p.1)]).length<=4294967296:=by simp;omega
  simp only [Xu,hl,D2 hat,if_true,A9 hat,A0,hm0];rw [B5 (I1 hq),E8 hat (by omega),P1 hat,List.append_assoc]) (by
  simp  [Xu,hl,Fr])
 simp_all
theorem B9z {l:List B1} (h:Row l):loopF (Xv l) (0,[])=some (T5 l):=by
 have hl:=h.1;have:=C7 (tb:=Xv l) (x:=T5 l) (λi=>((i),T5 (l.take i))) l.length (by omega) (λi hi=>by
  have hat:=List.getElem?_eq_getElem hi;generalize l[i]=p at hat;have hm:=h.pmacs hat;have h0:((p.2.2.2.1.length:Int)==0)=false:=beq_eq_false_iff_ne.2 (by have:(pmacs p).length=p.2.2.2.1.length:=rfl;omega);have hb:=Cf (l.take i);have hb2:(l.take i).length<=14:=by rw [List.length_take];omega
  have hin:=B9y (p:=p) hm.1 (acc:=T5 (l.take i)) (by omega);have h1:=W6 p.2.2.2.2.1;have h2:=W6 p.2.2.2.2.2;have e:T5 (l.take (i+1))=T5 (l.take i)++Fr p:=Ee hat;have hq:(R9 p.2.2.2.2.1++R9 p.2.2.2.2.2).length<=4294967296:=by rw [List.length_append];omega
  simp only [Xv,D2 hat,if_true,A9 hat,A0,h0,Bool.false_eq_true,if_false,A8m];rw [B5 (I1 hq),hin,A0,E8 hat (by omega),e]) (by
  simp  [Xv,List.take_length])
 exact this
theorem B6e {d:A6} (h:J4 d):∃ b,f36 d=some b∧b.Perm (T5 (D9 (A8 d))):=by
 have hf:=h.few;have hb:=Cf (D9 (A8 d));obtain⟨b,h1,h2⟩:=B6d (l:=T5 (D9 (A8 d))) (by omega);have hl:=decide_eq_true h2.length_eq.symm;exact⟨b,by simp  [f36,A8l h,B9z h.row,h1,B5 hl],h2⟩
theorem C60 {l:List B1} {r:List I4} {z:Int} (h:Row l) (hr:W8 l r):loopF (B4e (r,z)) 0=some (Sum.inl ()):=by
 have hl:=h.1;have hrl:=hr.len;refine I8 (l:=r) (by omega) (λi a ha => ?_) (by simp  [B4e,if_false]);have hlt:=Hu ha;have hat:=List.getElem?_eq_getElem (show i<l.length by omega);generalize l[i]=p at hat;obtain⟨c,hc⟩:=hr.get i p hat;rw [ha] at hc;cases hc;have hn:=h.2 i p hat;have hm:=h.pmacs hat;have h0:((p.2.2.2.1.length:Int)==0)=false:=beq_eq_false_iff_ne.2 (by have:(pmacs p).length=p.2.2.2.1.length:=rfl;omega);obtain⟨o,sw,sp,two,vc,b1,b2,b3,b4,e⟩:=hn;have hsw:p.2.1=(sw):=by rw [e];rfl
 have s1:decide (p.2.1<0)=false:=decide_eq_false (by omega);have s2:decide (3<p.2.1)=false:=decide_eq_false (by omega);have hsum:((w64 (((R9 p.2.2.2.2.1).length)+((R9 p.2.2.2.2.2).length)))==0)=false:=by
  have e4:R9 (F9 (i+1))=[F9 (i+1)]:=by rfl
  have e6:R9 (N8 (i+1))=[N8 (i+1)]:=by rfl
  have e0:R9 F7=[]:=by rfl
  rcases Bg (h.2 i p hat) with ⟨h1,h2⟩ | ⟨h1,h2⟩ | ⟨h1,h2⟩<;>rw [h1,h2]<;>simp only [e6,e0]<;>rfl
 simp only [B4e,D2 ha,if_true,A9 ha,A0,P9,h0,s1,s2,hsum,Bool.false_eq_true,if_false,E8 ha (by omega)]
theorem C00 {d:A6} (h:J4 d) (m:Int):∃ r b,f7 d m pw R5=some (r,b,true,d)∧W8 (D9 (A8 d)) r∧b.Perm (T5 (D9 (A8 d))):=by
 obtain⟨r,h1,h2⟩:=B66 h;obtain⟨x,h3,h4⟩:=B6c h;obtain⟨b,h5,h6⟩:=B6e h;have hlen:((r.length) != (x.length:Int))=false:=by
  have:=h2.len;simp [*]
 exact⟨r,b,by simp only [f7,B63 h,A0,B64 h,h1,P9,show((0:Int) != 0)=false from rfl,Bool.false_eq_true,if_false,B6a h,h3,hlen,C60 (z:=0) h.row h2,D1,h5],h2,h6⟩
end Go.Top
namespace Go.Top
open Go Go.Vc
section
variable {α β S X:Type} {P:α->Prop}
variable {b:Bool} {x y:Option α}
theorem T6 (h:b=true) (k:Tot x P):Tot (if b=true then x else y) P:=by simp [*]
theorem M1 (h:b=false) (k:Tot y P):Tot (if b=true then x else y) P:=by
 simp_all
def Rd1 (st:Nat->β->S) (J:Nat->β->Prop) (Q:X->Prop) (k:Nat):X⊕S->Prop
 | .inl x=>Q x
 | .inr s=>∃ b,s=st (k+1) b∧J (k+1) b
def RdL (Q:X->Prop):X⊕S->Prop
 | .inl x=>Q x
 | .inr _=>False
variable {st:Nat->β->S} {J:Nat->β->Prop} {Q:X->Prop} {k:Nat}
variable {s:S} {tb:S->Option (X⊕S)} {x:X}
theorem B57 (h:Q x):Tot (Option.some (Sum.inl x:X⊕S)) (Rd1 st J Q k):=⟨_,rfl,h⟩
theorem L7 (b:β) (e:s=st (k+1) b) (h:J (k+1) b):Tot (Option.some (Sum.inr s:X⊕S)) (Rd1 st J Q k):=⟨_,rfl,b,e,h⟩
theorem S9 (h:Q x):Tot (Option.some (Sum.inl x:X⊕S)) (RdL Q):=⟨_,rfl,h⟩
theorem rng (n:Nat) (hn:n<=10000) (st:Nat->β->S) (J:Nat->β->Prop) (Q:X->Prop) {s0:S} (b0:β) (e0:s0=st 0 b0) (h0:J 0 b0) (h:∀ k b,k<n->J k b->Tot (tb (st k b)) (Rd1 st J Q k)) (he:∀ b,J n b->Tot (tb (st n b)) (RdL Q)):Tot (loopF tb s0) Q:=by
 subst e0;refine L1 (Inv:=λi s=>∃ b,i<=n∧s=st (n-i) b∧J (n-i) b) (λi s ⟨b,hi,e,hb⟩ => ?_) (n:=n) (by omega) ⟨b0,Nat.le_refl _,by simp,by simp [*]⟩;subst e;cases i with
 | zero =>
  obtain⟨y,ey,hy⟩:=he b hb;cases y with
  | inl x=>exact .inl ⟨x,ey,hy⟩
  | inr _=>exact hy.elim
 | succ i =>
  obtain⟨y,ey,hy⟩:=h (n-(i+1)) b (by omega) hb;cases y with
  | inl x=>exact .inl ⟨x,ey,hy⟩
  | inr s =>
   obtain⟨b',rfl,hb'⟩:=hy;have e:n-(i+1)+1=n-i:=by omega
   rw [e] at ey hb';exact .inr ⟨_,i,Nat.lt_succ_self _,ey,b',by omega,rfl,hb'⟩
theorem C28 (I:S->Prop) (μ:S->Nat) (Q:X->Prop) (hs:I s) (hm:μ s<=10000) (h:∀ s,I s->Tot (tb s) (Rnd I μ Q s)):Tot (loopF tb s) Q:=by
 refine L1 (Inv:=λi s=>I s∧μ s=i) (λi s ⟨hi,e⟩ => ?_) (n:=μ s) hm ⟨hs,rfl⟩;obtain⟨y,ey,hy⟩:=h s hi;cases y with
 | inl x=>exact .inl ⟨x,ey,hy⟩
 | inr s'=>exact .inr ⟨s',μ s',by rw [<- e];exact hy.2,ey,hy.1,rfl⟩
end
theorem N9 {n:Nat} (h:n<=4000000000):decide (n<=LIM)=true:=decide_eq_true (show n<=4294967296 by omega)
theorem wN {k:Nat} (h:k<=4000000000):w64 ((k:Int)+1)=((k+1:Nat):Int):=by rw [F8 (by omega) (by omega)];rfl
end Go.Top
namespace Go.Top
open Go Go.Vc
variable {f:C6} {a b s:Int} {i:Nat}
structure LV (n:Int) (l:K1):Prop where
 a:0<=l.1∧l.1<n
 b:0<=l.2.1∧l.2.1<n
 ne:l.1≠l.2.1
 c:1<=l.2.2∧l.2.2<=1048576
structure FV (f:C6):Prop where
 s:1<=f.1∧f.1<=8
 l:f.2.1.length<=24
 dn:f.2.2.1.length=f.2.1.length
 dd:(f.2.2.2.length:Int)=f.1
 lk:∀ x∈f.2.1,LV f.1 x
def al (f:C6) (s:Int):Bool:=decide (0<=s)&&(match f.2.2.2[s.toNat]? with | some b => !b | none=>false)
def wk (f:C6) (i:Nat):Bool:=match f.2.1[i]?,f.2.2.1[i]? with
 | some l,some d => !d&&(al f l.1&&al f l.2.1)
 | _,_=>false
theorem A2x (h:al f s=true):0<=s∧s<f.2.2.2.length:=by
 have:=Bool.and_eq_true_iff.1 h;have h2:=this.2;have h0:=of_decide_eq_true this.1;cases e:f.2.2.2[s.toNat]? with
 | none=>simp_all
 | some b=>have:=(List.getElem?_eq_some_iff.1 e).1;omega
theorem A8u (h:0<=s∧s<f.2.2.2.length):idx f.2.2.2 s=some (!al f s):=by
 have hl:s.toNat<f.2.2.2.length:=by omega
 refine Tot.eq (Tot.idx s.toNat (by omega) hl ?_);unfold al;simp_all
theorem A8v (h:¬ (0<=s∧s<f.2.2.2.length)):al f s=false:=by
 cases e:al f s with
 | false=>rfl
 | true=>exact absurd (A2x e) h
theorem Na (f:C6) (s:Int):A6c f s=some (al f s):=by
 unfold A6c
 by_cases h:0<=s∧s<f.2.2.2.length
 ·rw [if_pos (decide_eq_true h.1),if_pos (decide_eq_true h.2),A8u h,A0,Bool.not_not]
 ·rw [A8v h]
  by_cases h0:0<=s
  ·rw [if_pos (decide_eq_true h0),if_neg (by simp_all)]
  simp [*]
theorem Sw (f:C6) (s:Int):f30 f s=some (!al f s):=by
 unfold f30
 by_cases h:0<=s∧s<f.2.2.2.length
 ·rw [if_neg (by simp [*]),if_neg (by simp_all),A8u h,A0]
 ·rw [A8v h];simp_all
theorem Wn (hf:FV f) (hi:i<f.2.1.length):f95 f (i:Int)=some (wk f i):=by
 have hd:i<f.2.2.1.length:=by rw [hf.dn];omega
 unfold f95 wk;rw [if_neg (by simp),if_neg (by simp [*]),if_neg (by simp [*]),List.getElem?_eq_getElem hi,List.getElem?_eq_getElem hd];refine Tot.eq (Tot.bindIdx i rfl hd (Tot.ite (λh=>Tot.some ?_) (λh=>Tot.bindIdx i rfl hi (Tot.bindOf (Na ..) (Tot.ite (λh2=>Tot.bindIdx i rfl hi (Tot.bindOf (Na ..) (Tot.some ?_))) (λh2=>Tot.some ?_))))))<;>simp_all
theorem A5i (hf:FV f) (hi:i<f.2.1.length):f29 f (i:Int)=some (wk f i):=by
 have hd:i<f.2.2.1.length:=by rw [hf.dn];omega
 unfold f29 wk;rw [if_neg (by simp),if_neg (by simp_all),if_neg (by simp [*]),List.getElem?_eq_getElem hi,List.getElem?_eq_getElem hd];refine Tot.eq (Tot.bindIdx i rfl hd (Tot.ite (λh=>Tot.some ?_) (λh=>Tot.bindIdx i rfl hi (Tot.bindOf (Sw ..) (Tot.ite (λh2=>Tot.bindOf (Sw ..) (Tot.some ?_)) (λh2=>Tot.some ?_))))))<;>simp_all
def Ed (f:C6) (a b:Int):Prop:=∃ i l,f.2.1[i]? = some l∧wk f i=true∧((l.1=a∧l.2.1=b)∨(l.2.1=a∧l.1=b))
theorem Ed.symm {f:C6} {a b:Int}:Ed f a b->Ed f b a
 | ⟨i,l,h1,h2,h3⟩=>⟨i,l,h1,h2,h3.elim (λh => .inr ⟨h.2,h.1⟩) (λh => .inl ⟨h.2,h.1⟩)⟩
theorem B4v {l:K1} (h:wk f i=true) (hl:f.2.1[i]? = some l):al f l.1=true∧al f l.2.1=true:=by
 unfold wk at h;rw [hl] at h;cases e:f.2.2.1[i]?<;>simp_all
theorem Ed.al:Ed f a b->al f a=true∧al f b=true
 | ⟨_,_,h1,h2,h3⟩=>h3.elim (λh=>by have:=B4v h2 h1;simp_all) (λh=>by have:=B4v h2 h1;simp_all)
def gt (D:List Int) (a:Int):Int:=D.getD a.toNat (-1)
theorem Zy {D:List Int} {k:Nat} (h:k<D.length):gt D (k:Int)=D[k]:=by
 unfold gt;simp_all
theorem Hx {D:List Int} {v:Int} (ha:0<=a∧a<D.length) (hb:0<=b):gt (D.set a.toNat v) b=if b=a then v else gt D b:=by
 unfold gt;simp  
 by_cases e:b=a
 ·simp_all
 ·rw [if_neg e,List.getElem?_set_ne (by omega)]
theorem B6f {D:List Int} (h:0<=a∧a<D.length):idx D a=some (gt D a) :=
 Tot.eq (Tot.idx a.toNat (by omega) (by omega) (by rw [<- Zy (by omega),Int.toNat_of_nonneg h.1]))
theorem U7 {α:Type} {P:α->Prop} {D:List Int} {k:Int->Option α} (h:0<=a∧a<D.length) (hk:Tot (k (gt D a)) P):Tot ((idx D a).bind k) P:=Tot.bindOf (B6f h) hk
structure Dst (f:C6) (tg:Int) (D:List Int):Prop where
 len:(D.length:Int)=f.1
 lo:∀ a,0<=a->a<f.1 -> -1<=gt D a
 z:gt D tg=0
 z':∀ a,0<=a->a<f.1->gt D a=0->a=tg
 nb:∀ a b,Ed f a b->0<=gt D a->0<=gt D b∧gt D b<=gt D a+1
 pd:∀ a,0<=a->a<f.1->0<gt D a->∃ b,Ed f a b∧gt D b=gt D a-1
theorem Ed.rng (hf:FV f) (h:Ed f a b):(0<=a∧a<f.1)∧(0<=b∧b<f.1):=by
 have h1:=A2x h.al.1;have h2:=A2x h.al.2;rw [hf.dd] at h1 h2;omega
def un (D:List Int):Nat:=D.countP λx=>decide (x<0)
theorem B6g {D:List Int} {a v:Int} (ha:0<=a∧a<D.length) (hn:gt D a<0) (hv:0<=v):un (D.set a.toNat v)+1=un D:=by
 have hl:a.toNat<D.length:=by omega
 have hg:D[a.toNat]<0:=by rw [<- Zy hl,Int.toNat_of_nonneg ha.1];omega
 unfold un;rw [List.countP_set hl];have:0<D.countP λx=>decide (x<0):=List.countP_pos_iff.2 ⟨_,List.getElem_mem hl,decide_eq_true hg⟩;rw [if_pos (by simp [*]),if_neg (by simp [*])];omega
structure QI (f:C6) (tg q:Int) (M:Nat) (Q D:List Int):Prop where
 len:(D.length:Int)=f.1
 lo:∀ a,0<=a->a<f.1 -> -1<=gt D a
 z:gt D tg=0
 z':∀ a,0<=a->a<f.1->gt D a=0->a=tg
 pd:∀ a,0<=a->a<f.1->0<gt D a->∃ b,Ed f a b∧gt D b=gt D a-1
 hd:Q.head? = some q
 qs:∀ x∈Q,(0<=x∧x<f.1)∧0<=gt D x
 top:∀ a,0<=a->a<f.1->gt D a<=gt D q+1
 srt:Q.Pairwise λx y=>gt D x<=gt D y
 dn:∀ a,0<=a->a<f.1->0<=gt D a->a∉Q->∀ b,Ed f a b->0<=gt D b∧gt D b<=gt D a+1
 mu:Q.length+un D=M
theorem QI.push {f:C6} (hf:FV f) {tg q:Int} {M:Nat} {Q D:List Int} (h:QI f tg q M Q D) {x:Int} (hx:Ed f q x) (hu:gt D x<0):QI f tg q M (Q++[x]) (D.set x.toNat (gt D q+1)):=by
 have hqm:=List.mem_of_mem_head? h.hd;obtain⟨hq,hq0⟩:=h.qs q hqm;have hxr:=(hx.rng hf).2;have hxl:0<=x∧x<D.length:=by rw [h.len];omega
 have g:∀ b,0<=b->gt (D.set x.toNat (gt D q+1)) b=if b=x then gt D q+1 else gt D b:=λb hb=>Hx hxl hb;have old:∀ b,0<=b->0<=gt D b->gt (D.set x.toNat (gt D q+1)) b=gt D b:=λb hb h0=>by
  rw [g b hb,if_neg (λe=>by rw [e] at h0;omega)]
 refine⟨by rw [List.length_set];exact h.len,λa h0 h1 => ?_,?_,λa h0 h1 e => ?_,λa h0 h1 hp => ?_,?_,λy hy => ?_,λa h0 h1 => ?_,?_,λa h0 h1 hl hn b hb => ?_,?_⟩
 ·rw [g a h0];split
  ·omega
  ·exact h.lo a h0 h1
 ·by_cases ht:0<=tg
  ·rw [old tg ht (by rw [h.z];omega),h.z]
  ·have hz:=h.z;have e:gt D tg=gt D 0:=by unfold gt;rw [show tg.toNat=(0:Int).toNat from by omega]
   have e':∀ L,gt L tg=gt L 0:=λL=>by unfold gt;rw [show tg.toNat=(0:Int).toNat from by omega]
   rw [e',old 0 (Int.le_refl _) (by omega),<- e,hz]
 ·rw [g a h0] at e;split at e
  ·omega
  ·exact h.z' a h0 h1 e
 ·rw [g a h0] at hp ⊢;split at hp
  ·rename_i e;subst e;exact⟨q,hx.symm,by rw [old q hq.1 hq0];omega⟩
  ·rename_i e;rw [if_neg e];obtain⟨b,hb,eb⟩:=h.pd a h0 h1 hp;exact⟨b,hb,by rw [old b (hb.rng hf).2.1 (by omega)];omega⟩
 ·rw [List.head?_append,h.hd];rfl
 ·rcases List.mem_append.1 hy with hy | hy
  ·obtain⟨r,p⟩:=h.qs y hy;exact⟨r,by rw [old y r.1 p];omega⟩
  ·have:=List.mem_singleton.1 hy;subst this;exact⟨hxr,by rw [g _ hxr.1,if_pos rfl];omega⟩
 ·rw [old q hq.1 hq0,g a h0];split
  ·simp
  ·exact h.top a h0 h1
 ·refine List.pairwise_append.2 ⟨h.srt.imp_of_mem fun {a b} ha hb r => ?_,List.pairwise_singleton ..,λa ha b hb => ?_⟩
  ·obtain⟨ra,pa⟩:=h.qs a ha;obtain⟨rb,pb⟩:=h.qs b hb;rw [old a ra.1 pa,old b rb.1 pb];omega
  ·have:=List.mem_singleton.1 hb;subst this;obtain⟨ra,pa⟩:=h.qs a ha;rw [old a ra.1 pa,g _ hxr.1,if_pos rfl];exact h.top a ra.1 ra.2
 ·have hn':a∉Q∧a≠x:=by
   refine⟨λk=>hn (List.mem_append_left _ k),λk=>hn (List.mem_append_right _ (by rw [k];exact List.mem_singleton_self _))⟩
  have hl':0<=gt D a:=by rw [g a h0,if_neg hn'.2] at hl;exact hl
  obtain⟨p1,p2⟩:=h.dn a h0 h1 hl' hn'.1 b hb;rw [old a h0 hl',old b (hb.rng hf).2.1 p1];exact⟨p1,p2⟩
 ·have:=B6g hxl hu (v:=gt D q+1) (by omega);have:=h.mu;rw [List.length_append,List.length_singleton];omega
end Go.Top
namespace Go.Top
open Go Go.Vc
variable {f:C6} {a tg:Int} {l:K1} {Q:List Int} {i:Nat}
theorem mm (hf:FV f):Bb (0:Int) (U8 f.1 (f.2.2.2.length:Int))=f.1:=by
 have:=hf.dd;unfold Bb U8;omega
def B96 (f:C6) (q:Int) (k:Nat) (D:List Int):Prop:=∀ i,i<k->∀ l,f.2.1[i]? = some l->wk f i=true->(l.1=q->0<=gt D l.2.1)∧(l.2.1=q->0<=gt D l.1)
theorem QI.closed {q:Int} {M:Nat} {D:List Int} (h:QI f tg q M Q D) (hp:B96 f q f.2.1.length D):∀ b,Ed f q b->0<=gt D b
 | b,⟨i,l,h1,h2,h3⟩=>by
  have:=hp i (List.getElem?_eq_some_iff.1 h1).1 l h1 h2;rcases h3 with h3 | h3<;>simp_all
theorem QI.pop (hf:FV f) {q:Int} {M:Nat} {D:List Int} (h:QI f tg q M Q D) (hc:∀ b,Ed f q b->0<=gt D b) :
  (Q.drop 1=[]∧Dst f tg D)∨∃ q' M',QI f tg q' M' (Q.drop 1) D:=by
 have nbq:∀ b,Ed f q b->0<=gt D b∧gt D b<=gt D q+1:=λb hb=>⟨hc b hb,h.top b (hb.rng hf).2.1 (hb.rng hf).2.2⟩
 match Q,h with
 | [],h=>cases h.hd
 | x :: R,h =>
  have hx:=by have:=h.hd;simpa using this
  subst hx
  match R,h with
  | [],h =>
   refine .inl ⟨rfl,h.len,h.lo,h.z,h.z',λa b hb h0 => ?_,h.pd⟩
   by_cases e:a=x
   ·simp_all
   ·exact h.dn a (hb.rng hf).1.1 (hb.rng hf).1.2 h0 (by simp [*]) b hb
  | y :: R,h =>
   refine .inr ⟨y,(y :: R).length+un D,h.len,h.lo,h.z,h.z',h.pd,rfl,λz hz=>h.qs z (List.mem_cons_of_mem _ hz),λa h0 h1 => ?_,(List.pairwise_cons.1 h.srt).2,λa h0 h1 hl hn b hb => ?_,rfl⟩
   ·have:=h.top a h0 h1;have:=(List.pairwise_cons.1 h.srt).1 y (List.mem_cons_self ..);omega
   ·by_cases e:a=x
    ·simp_all
    ·exact h.dn a h0 h1 hl (λk=>by
      simp_all) b hb
theorem B1q:∀ (n:Nat) (L:List Int),(∀ m:Nat,m<=n->(m:Int)∈L)->n+1<=L.length
 | 0,L,hL=>List.length_pos_of_mem (hL 0 (Nat.le_refl _))
 | n+1,L,hL=>by
  have:=B1q n (L.filter λx=>decide (x≠((n+1:Nat)))) (λm hm=>List.mem_filter.2 ⟨hL m (by omega),decide_eq_true (by omega)⟩);have:(L.filter λx=>decide (x≠((n+1:Nat):Int))).length<L.length:=List.length_filter_lt_length_iff_exists.2 ⟨_,hL (n+1) (Nat.le_refl _),by simp⟩;omega
theorem A8w {D:List Int} (h:0<=a∧a<D.length):gt D a∈D:=by
 have hl:a.toNat<D.length:=by omega
 have:=Zy hl;rw [Int.toNat_of_nonneg h.1] at this;simp_all
theorem Zz (hf:FV f) {D:List Int} (len:(D.length:Int)=f.1) (pd:∀ a,0<=a->a<f.1->0<gt D a->∃ b,Ed f a b∧gt D b=gt D a-1) (h0:0<=a) (h1:a<f.1):gt D a<f.1:=by
 have key:∀ (n:Nat) (a:Int),0<=a->a<f.1->gt D a=n->∀ m ,m<=n->(m:Int)∈D:=by
  intro n;induction n with
  | zero =>
   intro a h0 h1 e m hm;have:m=0:=by omega
   subst this;rw [<- e];exact A8w ⟨h0,by omega⟩
  | succ n ih =>
   intro a h0 h1 e m hm
   by_cases em:m=n+1
   ·subst em;rw [<- e];exact A8w ⟨h0,by omega⟩
   ·obtain⟨c,hc,ec⟩:=pd a h0 h1 (by omega);exact ih c (hc.rng hf).2.1 (hc.rng hf).2.2 (by omega) m (by omega)
 by_cases h:0<=gt D a
 ·have:=B1q (gt D a).toNat D (λm hm=>key (gt D a).toNat a h0 h1 (by omega) m hm);omega
 omega
theorem B6h (hl:f.2.1[i]? = some l) (hw:wk f i=true) {k:Nat} (hk:k<2):∃ x0 x1,([([l.1,l.2.1]:List Int),([l.2.1,l.1]:List Int)]:List (List Int))[k]? = some [x0,x1]∧Ed f x0 x1∧((k=0∧x0=l.1∧x1=l.2.1)∨(k=1∧x0=l.2.1∧x1=l.1)):=by
 have e1:Ed f l.1 l.2.1:=⟨i,l,hl,hw,.inl ⟨rfl,rfl⟩⟩
 match k,hk with
 | 0,_=>exact⟨_,_,rfl,e1,.inl ⟨rfl,rfl,rfl⟩⟩
 | 1,_=>exact⟨_,_,rfl,e1.symm,.inr ⟨rfl,rfl,rfl⟩⟩
theorem B6i {L:List Int} (h:¬ 0<=a):gt L a=gt L 0:=by unfold gt;rw [show a.toNat=(0:Int).toNat from by omega]
theorem B58 (x y:Int):idx [x,y] 0=some x:=rfl
theorem A3p (x y:Int):idx [x,y] 1=some y:=rfl
theorem B6j (hf:FV f) {q:Int} {M:Nat} {D:List Int} (h:QI f tg q M Q D) (hM:M<=1000) (hl:f.2.1[i]? = some l) (hw:wk f i=true) :
  Tot (loopF (A1i [[l.1,l.2.1],[l.2.1,l.1]]) ((0:Int),D,Q)) (λx=>QI f tg q M x.2 x.1∧(∀ a,0<=gt D a->0<=gt x.1 a)∧(l.1=q->0<=gt x.1 l.2.1)∧(l.2.1=q->0<=gt x.1 l.1)):=by
 refine rng 2 (by simp) (λk (b)=>(((k):Int),b.1,b.2)) (λk b=>QI f tg q M b.2 b.1∧(∀ a,0<=gt D a->0<=gt b.1 a)∧(1<=k->l.1=q->0<=gt b.1 l.2.1)∧(2<=k->l.2.1=q->0<=gt b.1 l.1))
  _ (D,Q) rfl ⟨h,λ_ x=>x,λx=>absurd x (by simp),λx=>absurd x (by simp)⟩ (λk b hk hb => ?_) (λb hb => ?_)
 ·obtain⟨hb1,hb2,hb3,hb4⟩:=hb;obtain⟨x0,x1,hx,hE,hk2⟩:=B6h hl hw hk;have hr:=hE.rng hf;have hlen:=hb1.len;have hQ:idx b.2 0=some q:=by
   have:=hb1.hd
   match e:b.2,this with
   | x :: R,h=>simp   at h;rw [h];rfl
  have rD0:0<=x0∧x0<b.1.length:=by omega
  have rD1:0<=x1∧x1<b.1.length:=by omega
  refine T6 (decide_eq_true (by omega)) (Tot.bindOf (A9 hx) ?_);refine Tot.jnR (λm  => m=true↔(x0=q∧gt b.1 x1<0)) (λj hj=>Tot.bindOf (B58 ..) (Tot.bindOf hQ (Tot.bindOf hQ (Tot.ite (λh1=>Tot.bindOf (A3p ..) (T6 (decide_eq_true rD1.2) (Tot.bindOf (A3p ..) (U7 rD1 (U7 rD1 (hj _ ?_)))))) (λh1=>hj _ ?_))))) (λm hm=>Tot.ite (λh1 => ?_) (λh1=>L7 (b.1,b.2) (by rw [wN (by omega)]) ?_))
  ·have:=eq_of_beq h1;simp [*]
  ·have:x0≠q:=by intro e;rw [e] at h1;simp at h1
   simp [*]
  ·obtain⟨eq0,hu⟩:=hm.1 h1;have hqq:=(hb1.qs q (List.mem_of_mem_head? hb1.hd)).1;have hqg:=(hb1.qs q (List.mem_of_mem_head? hb1.hd)).2;have hqt:=Zz hf hlen hb1.pd hqq.1 hqq.2;have hs:=hf.s;have hw:w64 (gt b.1 x0+1)=gt b.1 q+1:=by rw [eq0];exact F8 (by omega) (by omega)
   refine Tot.bindOf (A3p ..) (Tot.bindOf (B58 ..) (U7 rD0 (U7 rD0 (U7 rD1 (U7 rD1 (Tot.bindOf (A3p ..) (Tot.chk (Bool.and_eq_true_iff.2 ⟨by simp,N9 ?_⟩) (Tot.chk (decide_eq_true (List.length_set ..)) (L7 (b.1.set x1.toNat (gt b.1 q+1),b.2++[x1]) (by rw [wN (by omega),hw]) ?_)))))))))
   ·have:=hb1.mu;rw [List.length_append];simp  ;omega
   ·rw [eq0] at hE;have up:∀ a,0<=gt b.1 a->0<=gt (b.1.set x1.toNat (gt b.1 q+1)) a:=λa ha=>by
     by_cases h0:0<=a
     ·rw [Hx rD1 h0];omega
     ·rw [B6i h0] at ha ⊢;rw [Hx rD1 (Int.le_refl _)];omega
    have at1:0<=gt (b.1.set x1.toNat (gt b.1 q+1)) x1:=by rw [Hx rD1 rD1.1,if_pos rfl];omega
    refine⟨hb1.push hf hE hu,λa ha=>up a (hb2 a ha),λh1 e => ?_,λh1 e => ?_⟩
    ·rcases hk2 with ⟨k0,ea,eb⟩ | ⟨k0,ea,eb⟩
     ·rw [<- eb];exact at1
     ·exact up _ (hb3 (by omega) e)
    ·rcases hk2 with ⟨k0,ea,eb⟩ | ⟨k0,ea,eb⟩
     ·omega
     ·rw [<- eb];exact at1
  ·have hm':x0=q->0<=gt b.1 x1:=λe=>Int.not_lt.1 λg=>by rw [hm.2 ⟨e,g⟩] at h1;cases h1
   refine⟨hb1,hb2,λh1 e => ?_,λh1 e => ?_⟩
   ·rcases hk2 with ⟨k0,ea,eb⟩ | ⟨k0,ea,eb⟩
    ·rw [<- eb];exact hm' (ea.trans e)
    ·exact hb3 (by omega) e
   ·rcases hk2 with ⟨k0,ea,eb⟩ | ⟨k0,ea,eb⟩
    ·omega
    ·rw [<- eb];exact hm' (ea.trans e)
 ·unfold A1i;exact M1 (decide_eq_false (by simp only;omega)) (S9 ⟨hb.1,hb.2.1,hb.2.2.1 (by decide),hb.2.2.2 (by decide)⟩)
end Go.Top
namespace Go.Top
open Go Go.Vc
variable {f:C6} {tg:Int}
theorem B6k (hf:FV f) {q:Int} {M:Nat} {Q D:List Int} (h:QI f tg q M Q D) (hM:M<=1000) :
  Tot (loopF (B1d f (-1)) ((0:Int),D,Q)) (λx=>QI f tg q M x.2 x.1∧B96 f q f.2.1.length x.1):=by
 have hl:=hf.l;refine rng f.2.1.length (by omega) (λk (b)=>(((k):Int),b.1,b.2)) (λk b=>QI f tg q M b.2 b.1∧B96 f q k b.1) _ (D,Q) rfl ⟨h,λi hi=>absurd hi (Nat.not_lt_zero _)⟩ (λk b hk hb => ?_) (λb hb => ?_)
 ·have hlk:=List.getElem?_eq_getElem hk;refine T6 (decide_eq_true (by omega)) (Tot.bindIdx k rfl hk (M1 (by rfl) (Tot.bindOf (Wn hf hk) (Tot.ite (λh1=>L7 (b.1,b.2) (by rw [wN (by omega)]) ⟨hb.1,?_⟩) (λh1 => ?_)))))
  ·intro i hi l hl hw
   by_cases e:i=k
   ·simp_all
   ·exact hb.2 i (by omega) l hl hw
  ·have hw:=by simpa using h1
   refine Tot.bindT (B6j hf hb.1 hM hlk hw) λx hx=>L7 (x.1,x.2) (by rw [wN (by omega)]) ⟨hx.1,λi hi l hl hw' => ?_⟩
   by_cases e:i=k
   ·simp_all
   ·have:=hb.2 i (by omega) l hl hw';simp_all
 ·exact M1 (decide_eq_false (by simp)) (S9 hb)
theorem A5j (hf:FV f):Tot (loopF (B1c (List.replicate (Int.toNat f.1) 0)) ((0:Int),List.replicate (Int.toNat f.1) 0)) (λD=>(D.length:Int)=f.1∧∀ a,0<=a->a<f.1->gt D a = -1):=by
 have hs:=hf.s;refine rng f.1.toNat (by omega) (λk (D)=>(((k)),D)) (λk D=>(D.length)=f.1∧∀ a:Int,0<=a->a<k->gt D a = -1) _ _ rfl ⟨by rw [List.length_replicate];omega,λa h0 h1=>by omega⟩ (λk D hk hb => ?_) (λD hb => ?_)
 ·have hr:0<=(k:Int)∧(k:Int)<D.length:=by omega
  refine T6 (by simp only [List.length_replicate];exact decide_eq_true (by omega)) (U7 hr (U7 hr (Tot.chk (decide_eq_true (List.length_set ..)) (L7 _ (by rw [wN (by omega)]) ⟨by simp [*],λa h0 h1 => ?_⟩))));rw [Hx hr h0];split
  ·rfl
  ·exact hb.2 a h0 (by omega)
 ·exact M1 (by simp) (S9 ⟨hb.1,λa h0 h1=>hb.2 a h0 (by omega)⟩)
theorem C29 (hf:FV f) (ht:0<=tg∧tg<f.1) {D:List Int} (hl:(D.length:Int)=f.1) (hD:∀ a,0<=a->a<f.1->gt D a = -1) :
 ∀ a,0<=a->gt (D.set tg.toNat 0) a=if a=tg then 0 else gt D a:=λa h0=>Hx (by omega) h0
theorem B6l (hf:FV f) (ht:al f tg=true):0<=tg∧tg<f.1:=by have:=A2x ht;rw [hf.dd] at this;omega
theorem A5k (hf:FV f):Tot (f93 f tg) (λD=>if al f tg=true then Dst f tg D else (D.length:Int)=f.1∧∀ a,0<=a->a<f.1->gt D a = -1):=by
 have hs:=hf.s;unfold f93 B8r;refine Tot.bindT (P':=λD=>if al f tg=true then Dst f tg D else (D.length)=f.1∧∀ a,0<=a->a<f.1->gt D a = -1) ?_ λD hD=>Tot.some hD;rw [mm hf];refine Tot.chk (Bool.and_eq_true_iff.2 ⟨Bool.and_eq_true_iff.2 ⟨decide_eq_true (by omega),decide_eq_true (Int.le_refl _)⟩,Bool.and_eq_true_iff.2 ⟨decide_eq_true (by omega),decide_eq_true (show f.1<=((4294967296)) by omega)⟩⟩) (Tot.bindT (A5j hf) λD hD=>Tot.bindOf (Na f tg) ?_);cases ht:al f tg with
 | false=>exact T6 rfl (Tot.some (by simp_all))
 | true =>
 have htr:=B6l hf ht;have htl:0<=tg∧tg<D.length:=by omega
 have g:=C29 hf htr hD.1 hD.2;have un_le:∀ L ,un L<=L.length:=λL=>List.countP_le_length;have hlen:(D.set tg.toNat 0).length<=8:=by rw [List.length_set];omega
 refine M1 rfl (M1 (decide_eq_false (by omega)) (U7 htl (U7 htl (Tot.chk (decide_eq_true (List.length_set ..)) ?_))));refine Tot.bindT (C28 (λs=>(s.2=[]∧Dst f tg s.1)∨∃ q M,M<=1000∧QI f tg q M s.2 s.1) (λs=>s.2.length+un s.1) (Dst f tg) (.inr ⟨tg,1+un (D.set tg.toNat 0),?_,?_⟩) ?_ (λs hs => ?_)) (λx hx=>Tot.some (by simp_all))
 ·have:=un_le (D.set tg.toNat 0);omega
 ·refine⟨by simp_all,λa h0 h1 => ?_,by simp_all,λa h0 h1 e => ?_,λa h0 h1 hp => ?_,rfl,λx hx => ?_,λa h0 h1 => ?_,List.pairwise_singleton ..,λa h0 h1 hl hn b hb => ?_,rfl⟩
  ·rw [g a h0,hD.2 a h0 h1];omega
  ·simp_all
  ·rw [g a h0,hD.2 a h0 h1] at hp;omega
  ·simp_all
  ·rw [g a h0,hD.2 a h0 h1,g tg htr.1,if_pos rfl];omega
  ·rw [g a h0,hD.2 a h0 h1] at hl;split at hl
   ·simp_all
   omega
 ·show 1+un (D.set tg.toNat 0)<=10000;have:=un_le (D.set tg.toNat 0);omega
 ·rcases hs with ⟨e,hd⟩ | ⟨q,M,hM,hq⟩
  ·exact M1 (by simp [*]) (Tot.out hd)
  ·have hpos:∀ {Q E:List Int},QI f tg q M Q E->0<Q.length:=fun {Q E} h=>by
    have:=h.hd
    match Q,this with
    | x :: R,_=>simp
   refine T6 (decide_eq_true (by have:=hpos hq;omega)) (Tot.bindT (B6k hf hq hM) λx hx=>Tot.chk (Bool.and_eq_true_iff.2 ⟨rfl,decide_eq_true (hpos hx.1)⟩) (Tot.next ?_ ?_))
   ·rcases hx.1.pop hf (hx.1.closed hx.2) with h | ⟨q',M',h⟩
    ·exact .inl h
    ·refine .inr ⟨q',M',?_,h⟩;have h1:=h.mu;have h2:=hx.1.mu;rw [List.length_drop] at h1;omega
   ·show(x.2.drop 1).length+un x.1<s.2.length+un s.1;have h1:=hq.mu;have h2:=hx.1.mu;have:=hpos hx.1;rw [List.length_drop];omega
end Go.Top
namespace Go.Top
open Go Go.Vc
variable {f:C6} {a b tg:Int} {n:Nat}
def At (l:K1) (a e:Int):Prop:=(l.1=a∧l.2.1=e)∨(l.2.1=a∧l.1=e)
def B1r (f:C6) (a:Int) (x:List Int×List Int):Prop:=∀ (i:Nat) (y e:Int),x.1[i]? = some y->x.2[i]? = some e->∃ n:Nat,y=n∧∃ l,f.2.1[n]? = some l∧wk f n=true∧At l a e
theorem B1r.snoc {x:List Int×List Int} (h:B1r f a x) (hl:x.1.length=x.2.length) {l:K1} {e:Int} (h1:f.2.1[n]? = some l) (h2:wk f n=true) (h3:At l a e):B1r f a (x.1++[(n:Int)],x.2++[e]):=λi y e' hy he=>by
 by_cases hi:i<x.1.length
 ·rw [List.getElem?_append_left hi] at hy;rw [List.getElem?_append_left (by omega)] at he;exact h i y e' hy he
 ·have hj:i=x.1.length:=by
   have:=(List.getElem?_eq_some_iff.1 hy).1;rw [List.length_append] at this;simp   at this;omega
  subst hj;rw [List.getElem?_append_right (Nat.le_refl _),Nat.sub_self] at hy;rw [hl,List.getElem?_append_right (Nat.le_refl _),Nat.sub_self] at he;cases hy;cases he;exact⟨n,rfl,l,h1,h2,h3⟩
inductive Pe (f:C6) (a:Int):List Int->Int->Prop
 | nil:Pe f a [] a
 | snoc {ls:List Int} {e e':Int} {n:Nat} {l:K1} (h:Pe f a ls e) (h1:f.2.1[n]? = some l) (h2:wk f n=true) (h3:At l e e'):Pe f a (ls++[(n:Int)]) e'
theorem B6m (hf:FV f) {D:List Int} (hD:Dst f tg D) (ha:0<=a∧a<f.1) (hp:0<gt D a) (out:List Int) :
  Tot (loopF (B1e f D (a,out)) ((0:Int),[],[])) (λx=>B1r f a x∧x.1.length=x.2.length∧x.2≠[]∧∀ e∈x.2,(0<=e∧e<f.1)∧gt D e=gt D a-1):=by
 have hl:=hf.l;have hs:=hf.s;have hup:=Zz hf hD.len hD.pd ha.1 ha.2;have hw:w64 (gt D a-1)=gt D a-1:=F8 (by omega) (by omega);refine rng f.2.1.length (by omega) (λk (b)=>(((k):Int),b.1,b.2)) (λk b=>B1r f a b∧b.1.length=b.2.length∧b.2.length<=k∧(∀ e∈b.2,(0<=e∧e<f.1)∧gt D e=gt D a-1)∧∀ i l e,i<k->f.2.1[i]? = some l->wk f i=true->At l a e->gt D e=gt D a-1->b.2≠[]) _ ([],[]) rfl ⟨(λi y e h=>by simp),rfl,Nat.le_refl _,(λe he=>nomatch he),λi l e hi=>absurd hi (Nat.not_lt_zero _)⟩ (λk b hk hb => ?_) (λb hb => ?_)
 ·obtain⟨h0,h1,h2,h3,h4⟩:=hb;have hlk:=List.getElem?_eq_getElem hk;have hv:=hf.lk _ (List.getElem_mem hk);have hal:0<=a∧a<D.length:=by rw [hD.len];omega
  obtain⟨r,er,hr⟩:∃ r:Int×Bool,f94 f.2.1[k] a=some r∧((r.2=true∧(0<=r.1∧r.1<f.1)∧At f.2.1[k] a r.1∧∀ e,At f.2.1[k] a e->e=r.1)∨(r.2=false∧∀ e,¬ At f.2.1[k] a e)):=by
   unfold f94
   by_cases hA:a=f.2.1[k].1
   ·exact⟨_,if_pos (beq_iff_eq.2 hA),.inl ⟨rfl,hv.b,.inl ⟨hA.symm,rfl⟩,λe he=>he.elim (λh=>h.2.symm) λh=>absurd (hA.symm.trans h.1.symm) hv.ne⟩⟩
   ·rw [if_neg (by simp [*])]
    by_cases hB:a=f.2.1[k].2.1
    ·exact⟨_,if_pos (beq_iff_eq.2 hB),.inl ⟨rfl,hv.a,.inr ⟨hB.symm,rfl⟩,λe he=>he.elim (λh=>absurd h.1.symm hA) λh=>h.2.symm⟩⟩
    ·exact⟨_,if_neg (by simp [*]),.inr ⟨rfl,λe he=>he.elim (λh=>hA h.1.symm) λh=>hB h.1.symm⟩⟩
  refine T6 (decide_eq_true (by omega)) (Tot.bindIdx k rfl hk (Tot.bindOf er (Tot.jnR (λm  => (m=true->wk f k=true∧r.2=true∧gt D r.1=gt D a-1)∧(m=false->∀ e,wk f k=true->At f.2.1[k] a e->gt D e≠gt D a-1)) (λj hj => ?_) (λm hm=>Tot.ite (λg => ?_) (λg=>L7 (b.1,b.2) (by rw [wN (by omega)]) ⟨h0,h1,Nat.le_succ_of_le h2,h3,λi l e hi hl hw' he hg => ?_⟩)))))
  ·rcases hr with ⟨r2,rr,ra,ru⟩ | ⟨r2,rn⟩
   ·have hrl:0<=r.1∧r.1<D.length:=by rw [hD.len];omega
    refine T6 r2 (T6 (decide_eq_true hrl.2) (Tot.bindOf (Wn hf hk) (Tot.ite (λg=>U7 hrl (U7 hal (hj _ ⟨λg2 => ?_,λg2 e _ he hg => ?_⟩))) (λg=>hj _ ⟨(nomatch ·),λ_ e hw'=>by rw [g] at hw';cases hw'⟩))))
    ·rw [hw] at g2;exact⟨g,r2,eq_of_beq g2⟩
    ·rw [hw,<- ru e he,hg] at g2;simp at g2
   ·exact M1 r2 (hj _ ⟨(nomatch ·),λ_ e _ he=>absurd he (rn e)⟩)
  ·obtain⟨gw,g1,g2⟩:=hm.1 g;rcases hr with ⟨r2,rr,ra,ru⟩ | ⟨r2,_⟩
   ·refine Tot.chk (N9 (by rw [List.length_append];simp only [List.length_singleton];omega)) (Tot.chk (N9 (by rw [List.length_append];simp only [List.length_singleton];omega)) (L7 (b.1++[(k:Int)],b.2++[r.1]) (by rw [wN (by omega)]) ⟨h0.snoc h1 hlk gw ra,by rw [List.length_append,List.length_append,h1];rfl,by rw [List.length_append];simp only [List.length_singleton];omega,λe he => ?_,λ_ _ _ _ _ _ _ _=>by simp⟩));rcases List.mem_append.1 he with he | he
    ·exact h3 e he
    ·rw [List.mem_singleton.1 he];exact⟨rr,g2⟩
   ·rw [r2] at g1;cases g1
  ·by_cases e':i=k
   ·subst e';rw [hlk] at hl;cases hl;exact absurd hg (hm.2 g e hw' he)
   ·exact h4 i l e (by omega) hl hw' he hg
 ·unfold B1e;obtain⟨c,hE,hc⟩:=hD.pd a ha.1 ha.2 hp;obtain⟨i,l,hi,hw',hat⟩:=hE;exact M1 (decide_eq_false (by simp only;omega)) (S9 ⟨hb.1,hb.2.1,hb.2.2.2.2 i l c (List.getElem?_eq_some_iff.1 hi).1 hi hw' hat hc,hb.2.2.2.1⟩)
theorem B6n (hf:FV f) {D:List Int} (hD:Dst f tg D) (ha:0<=a∧a<f.1) (hn:gt D a=n) (h:Int) :
  Tot (loopF (B56 f tg h D) (a,[])) (λx=>∃ w:List Int,x = .inl w∧Pe f a w tg∧w.length<=100):=by
 have hs:=hf.s;have hup:=Zz hf hD.len hD.pd ha.1 ha.2;refine rng n (by omega) (λk (b)=>b) (λk b=>(0<=b.1∧b.1<f.1)∧k<=n∧gt D b.1=((n-k:Nat))∧b.2.length=k∧Pe f a b.2 b.1) _ (a,[]) rfl ⟨ha,Nat.zero_le _,hn,rfl,.nil⟩ (λk b hk hb => ?_) (λb hb => ?_)
 ·obtain⟨hr,_,hg,hlen,hwk⟩:=hb;have hne':b.1≠tg:=λe=>by rw [e,hD.z] at hg;omega
  refine T6 (bne_iff_ne.2 hne') (Tot.bindT (B6m hf hD hr (by omega) b.2) λx ⟨x0,x1,x2,x3⟩ => ?_);have hpos:=List.length_pos_iff.2 x2;have hm0:0<=Int.tmod (Bb 0 h) (x.1.length):=Int.tmod_nonneg _ (by unfold Bb;omega);have hm1:=Int.tmod_lt_of_pos (Bb 0 h) (show(0)<(x.1.length:Int) by omega);obtain⟨i,hi⟩:∃ i:Nat,Int.tmod (Bb 0 h) (x.1.length)=i:=⟨_,(Int.toNat_of_nonneg hm0).symm⟩;have i1:i<x.1.length:=by omega
  have i2:i<x.2.length:=by omega
  have hz:((x.1.length:Int)==0)=false:=by simp_all
  refine M1 hz (Tot.chk (by simp_all) (Tot.bindIdx i hi i1 (Tot.bindIdx i hi i1 (Tot.chk (N9 (by rw [List.length_append];simp  ;omega)) (Tot.bindIdx i hi i2 (Tot.bindIdx i hi i2 (L7 _ rfl ⟨(x3 _ (List.getElem_mem i2)).1,hk,?_,?_,?_⟩)))))))
  ·rw [(x3 _ (List.getElem_mem i2)).2,hg];omega
  ·simp [*]
  ·obtain⟨m,em,l,e1,e2,e3⟩:=x0 i _ _ (List.getElem?_eq_getElem i1) (List.getElem?_eq_getElem i2);rw [em];exact hwk.snoc e1 e2 e3
 ·obtain⟨hr,_,hg,hlen,hwk⟩:=hb;rw [Nat.sub_self] at hg;have:=hD.z' _ hr.1 hr.2 hg;exact M1 (by simp_all) (S9 ⟨_,rfl,by rw [<- this];omega,by omega⟩)
inductive Rc (f:C6):Int->Int->Prop
 | refl {a:Int} (h:al f a=true):Rc f a a
 | step {a b c:Int} (h:Ed f a b) (k:Rc f b c):Rc f a c
theorem Rc.trans {f:C6} {a b c:Int} (h:Rc f a b) (k:Rc f b c):Rc f a c:=by
 induction h with
 | refl _=>exact k
 | step e _ ih=>exact .step e (ih k)
theorem Rc.symm {f:C6} {a b:Int} (h:Rc f a b):Rc f b a:=by
 induction h with
 | refl h=>exact .refl h
 | step e _ ih=>exact ih.trans (.step e.symm (.refl e.al.1))
theorem Rc.als (h:Rc f a b):al f a=true∧al f b=true:=by
 induction h with
 | refl h=>simp [*]
 | step e _ ih=>exact⟨e.al.1,ih.2⟩
theorem Dst.rc (hf:FV f) {D:List Int} (hD:Dst f tg D) (ht:al f tg=true) (h0:0<=a) (h1:a<f.1):0<=gt D a↔Rc f a tg:=by
 constructor
 ·have key:∀ (n:Nat) (a:Int),0<=a->a<f.1->gt D a=n->Rc f a tg:=by
   intro n;induction n with
   | zero=>intro a h0 h1 e;rw [hD.z' a h0 h1 e];exact .refl ht
   | succ n ih =>
    intro a h0 h1 e;obtain⟨b,hb,eb⟩:=hD.pd a h0 h1 (by omega);exact .step hb (ih b (hb.rng hf).2.1 (hb.rng hf).2.2 (by omega))
  intro h;exact key (gt D a).toNat a h0 h1 (by omega)
 ·intro h;have:∀ {a b:Int},Rc f a b->b=tg->0<=gt D a:=by
   intro a b h;induction h with
   | refl _=>intro e;rw [e,hD.z];omega
   | step e _ ih=>intro et;exact(hD.nb _ _ e.symm (ih et)).1
  exact this h rfl
theorem A8x (hf:FV f) (ha:0<=a∧a<f.1) (h:Int):Tot (f46 f a b h) (λw=>(w.2=true↔Rc f a b)∧(w.2=true->Pe f a w.1 b∧w.1.length<=100)):=by
 refine Tot.bindT (A5k hf) λD hD=>M1 (decide_eq_false (by omega)) ?_;cases hb:al f b with
 | false =>
  rw [if_neg (by simp_all)] at hD;have hal:0<=a∧a<D.length:=by omega
  exact M1 (decide_eq_false (by omega)) (U7 hal (T6 (by simp_all) (Tot.some ⟨⟨(nomatch ·),λk=>by rw [k.als.2] at hb;cases hb⟩,(nomatch ·)⟩)))
 | true =>
  rw [if_pos hb] at hD;have hal:0<=a∧a<D.length:=by rw [hD.len];omega
  have hr:=hD.rc hf hb ha.1 ha.2;refine M1 (decide_eq_false (by omega)) (U7 hal (Tot.ite (λg=>Tot.some ⟨⟨(nomatch ·),λk => ?_⟩,(nomatch ·)⟩) (λg => ?_)))
  ·have:=hr.2 k;have:=of_decide_eq_true g;omega
  ·have g:=of_decide_eq_false g;obtain⟨n,hn⟩:∃ n:Nat,gt D a=n:=⟨(gt D a).toNat,by omega⟩;refine Tot.bindT (B6n hf hD ha hn h) λx ⟨w,e,hw⟩ => ?_;rw [e];exact Tot.some ⟨⟨λ_=>hr.1 (by omega),λ_=>rfl⟩,λ_=>hw⟩
end Go.Top
namespace Go.Top
open Go Go.Vc
theorem draw {l:List Int} (hl:l.length<=9223372036854775807) {n:Nat} {N:Int} (e:N=n) (hn:0<n) (hn2:n<=1000000) {k:Nat} (hk:k<=l.length) {α:Type} {P:α->Prop} {g:Int×Int->Option α} (h:∀ v k':Nat,v<n->k'<=l.length->Tot (g ((v:Int),(k':Int))) P):Tot ((f25 N l (k:Int)).bind g) P:=by
 obtain⟨v,k',e1,h1,h2⟩:=P6 hl hn (by omega) hk<;>simp_all
theorem B6o {l:List Int} (hl:l.length<=9223372036854775807) {k:Nat} (hk:k<=l.length):Tot (f16 4 l (k:Int)) (λx=>(FV x.2∧4<=x.2.1)∧∃ k':Nat,x.1=k'∧k'<=l.length):=by
 refine draw hl (n:=4) rfl (by simp) (by simp) hk λs k1 hs hk1 => ?_;have eS:U8 (w64 (4+((s),(k1)).1)) 8=((4+s:Nat)):=by
  rw [F8 (by omega) (by omega)];unfold U8;omega
 obtain⟨S,hS⟩:∃ S:Nat,4+s=S:=⟨_,rfl⟩;rw [hS] at eS;have e1:w64 ((S)-1)=((S-1:Nat)):=by rw [F8 (by omega) (by omega)];omega
 have cap:∀ c:Nat,c<10->w64 (1+(c))=((1+c:Nat)):=λc hc=>by rw [F8 (by omega) (by omega)];omega
 refine draw hl (n:=12) rfl (by decide) (by decide) hk1 λc k2 hc hk2 => ?_
 let J:Nat->Int×List K1->Prop:=λi b=>b.2.length<=i∧(∀ x∈b.2,LV S x)∧∃ k:Nat,b.1=k∧k<=l.length
 refine Tot.bindT (P':=λx=>J 11 x) (rng c (by omega) (λi (b:Int×List K1)=>(((c-i:Nat):Int),b.1,b.2)) J _ ((k2:Int),[]) rfl ⟨Nat.le_refl _,λx hx=>(nomatch hx),k2,rfl,hk2⟩ (λi b hi hb => ?_) (λb hb => ?_)) λx hx => ?_
 ·obtain⟨h1,h2,q,e2,hq⟩:=hb;unfold B1f;rw [eS];simp only;rw [e2,e1];refine T6 (decide_eq_true (by omega)) (T6 (decide_eq_true (by omega)) (draw hl (n:=S) rfl (by omega) (by omega) hq λa q1 ha hq1=>draw hl (n:=S-1) rfl (by omega) (by omega) hq1 λd q2 hd hq2=>Tot.chk (bne_iff_ne.2 (by omega)) (draw hl (n:=10) rfl (by decide) (by decide) hq2 λcp q3 hcp hq3 => ?_)));simp only;rw [cap cp hcp,show w64 ((a:Int)+1)=((a+1:Nat):Int) from wN (by omega),show w64 (((a+1:Nat):Int)+(d:Int))=((a+1+d:Nat):Int) from by rw [F8 (by omega) (by omega)];omega,Int.tmod_eq_emod_of_nonneg (by omega),show w64 (((c-i:Nat):Int)-1)=((c-(i+1):Nat):Int) from by rw [F8 (by omega) (by omega)];omega];have hm:((a+1+d:Nat):Int) % (S:Int)=(((a+1+d) % S:Nat):Int):=rfl;rw [hm];have hlt:(a+1+d) % S<S:=Nat.mod_lt _ (by omega);have hne:(a+1+d) % S≠a:=by
   by_cases h:a+1+d<S
   ·rw [Nat.mod_eq_of_lt h];omega
   ·rw [Nat.mod_eq_sub_mod (by omega),Nat.mod_eq_of_lt (by omega)];omega
  refine Tot.chk (N9 (by rw [List.length_append];simp only [List.length_singleton];omega)) (L7 ((q3:Int),b.2++[((a:Int),(((a+1+d) % S:Nat):Int),((1+cp:Nat):Int))]) rfl ⟨by rw [List.length_append];simp only [List.length_singleton];omega,λx hx => ?_,q3,rfl,hq3⟩);rcases List.mem_append.1 hx with hx | hx
  ·exact h2 x hx
  ·rw [List.mem_singleton.1 hx];exact⟨⟨by simp only;omega,by simp only;omega⟩,⟨by simp only;omega,by simp only;omega⟩,by simp only;omega,⟨by simp only;omega,by simp only;omega⟩⟩
 ·unfold B1f;refine M1 (by rw [Nat.sub_self];rfl) (S9 ⟨Nat.le_trans hb.1 (by omega),hb.2⟩)
 ·obtain⟨h1,h2,q,e2,hq⟩:=hx
  let J2:Nat->Int×List K1->Prop:=λi b=>b.2.length<=11+i∧(∀ x∈b.2,LV S x)∧∃ k:Nat,b.1=k∧k<=l.length
  refine Tot.bindT (P':=λx=>J2 6 x) (rng (S-1) (by omega) (λi (b:Int×List K1)=>(((1+i:Nat):Int),b.1,b.2)) J2 _ (x.1,x.2) rfl ⟨h1,h2,q,e2,hq⟩ (λi b hi hb => ?_) (λb hb => ?_)) λy hy => ?_
  ·obtain⟨g1,g2,p,ep,hp⟩:=hb;unfold B1g;rw [eS];simp only;rw [ep];refine T6 (decide_eq_true (by omega)) (draw hl (n:=4) rfl (by decide) (by decide) hp λv p1 hv hp1=>Tot.ite (λhv0=>draw hl (n:=1+i) rfl (by omega) (by omega) hp1 λb' p2 hb' hp2=>draw hl (n:=10) rfl (by decide) (by decide) hp2 λcp p3 hcp hp3 => ?_) (λ_=>L7 ((p1:Int),b.2) (by rw [wN (by omega)];simp only [Nat.add_assoc]) ⟨by simp only;omega,g2,p1,rfl,hp1⟩));simp only;rw [cap cp hcp];refine Tot.chk (N9 (by rw [List.length_append];simp only [List.length_singleton];omega)) (L7 ((p3:Int),b.2++[(((1+i:Nat):Int),(b':Int),((1+cp:Nat):Int))]) (by rw [wN (by omega)];simp only [Nat.add_assoc]) ⟨by rw [List.length_append];simp only [List.length_singleton];omega,λx hx => ?_,p3,rfl,hp3⟩);rcases List.mem_append.1 hx with hx | hx
   ·exact g2 x hx
   ·rw [List.mem_singleton.1 hx];exact⟨⟨by simp only;omega,by simp only;omega⟩,⟨by simp only;omega,by simp only;omega⟩,by simp only;omega,⟨by simp only;omega,by simp only;omega⟩⟩
  ·unfold B1g;rw [eS];exact M1 (decide_eq_false (by simp only;omega)) (S9 ⟨Nat.le_trans hb.1 (by omega),hb.2⟩)
  ·obtain⟨g1,g2,p,ep,hp⟩:=hy;have bools:∀ {n:Nat} (hn:n<=100) {tb:Int×Int×List Bool->Option ((Int×List Bool)⊕(Int×Int×List Bool))} {p:Nat},p<=l.length->(∀ (i p:Nat) (bs:List Bool),i<n->p<=l.length->bs.length=i->∃ (v:Bool) (p':Nat),p'<=l.length∧tb ((i:Int),(p:Int),bs)=some (.inr (((i+1:Nat):Int),(p':Int),bs++[v])))->(∀ (p:Int) bs,tb ((n:Int),p,bs)=some (.inl (p,bs))) ->
     Tot (loopF tb ((0:Int),(p:Int),[])) (λx=>x.2.length=n∧∃ k:Nat,x.1=k∧k<=l.length):=fun {n} hn {tb p} hp h he =>
    rng n (by omega) (λi (b:Int×List Bool)=>((i:Int),b.1,b.2)) (λi b=>b.2.length=i∧∃ k:Nat,b.1=k∧k<=l.length) _ ((p:Int),[]) rfl ⟨rfl,p,rfl,hp⟩ (λi b hi hb=>by
     obtain⟨b1,b2⟩:=b;obtain⟨f1,p,ep,hp⟩:=hb;simp only at ep f1;subst ep;obtain⟨v,p',hp',ev⟩:=h i p b2 hi hp f1;exact⟨_,ev,(((p':Int),b2++[v]):Int×List Bool),rfl,by rw [List.length_append,f1];rfl,p',rfl,hp'⟩) (λb hb=>⟨_,he b.1 b.2,hb⟩)
   rw [ep];refine Tot.bindT (bools (n:=y.2.length) (by omega) hp (λi p bs hi hp hb => ?_) (λp bs => ?_)) λz hz => ?_
   ·obtain⟨v,p',e,_,hp'⟩:=P6 hl (n:=6) (by decide) (by decide) hp;refine⟨((v:Int)==5),p',hp',?_⟩;unfold B1h;rw [if_pos (decide_eq_true (by simp only;omega)),show f25 6 l (p:Int)=some ((v:Int),(p':Int)) from e,A0,B5 (N9 (by rw [List.length_append];simp only [List.length_singleton];omega)),wN (by omega)]
   ·unfold B1h;rw [if_neg (by rw [decide_eq_true_eq];simp only;omega)]
   ·obtain⟨z1,r,er,hr⟩:=hz;rw [er];refine Tot.bindT (bools (n:=S) (by omega) hr (λi p bs hi hp hb => ?_) (λp bs => ?_)) λw hw=>Tot.some ⟨⟨⟨?_,?_,z1,?_,?_⟩,?_⟩,hw.2⟩
    ·obtain⟨v,p',e,_,hp'⟩:=P6 hl (n:=9) (by decide) (by decide) hp;refine⟨((v:Int)==8),p',hp',?_⟩;unfold B1i;rw [eS];simp only;rw [if_pos (decide_eq_true (by omega)),show f25 9 l (p:Int)=some ((v:Int),(p':Int)) from e,A0,B5 (N9 (by rw [List.length_append];simp only [List.length_singleton];omega)),wN (by omega)]
    ·unfold B1i;rw [eS];simp only;rw [if_neg (by rw [decide_eq_true_eq];omega)]
    ·show 1<=U8 _ 8∧U8 _ 8<=8;rw [eS];omega
    ·show y.2.length<=24;omega
    ·show(w.2.length:Int)=U8 _ 8;rw [eS,hw.1]
    ·show ∀ x∈y.2,LV (U8 _ 8) x;rw [eS];exact g2
    ·show 4<=U8 _ 8;rw [eS];omega
end Go.Top
namespace Go.Top
open Go Go.Vc
def hd6:List Int:=[0,1,8,0,6,4]
theorem A8y (m:Int):f15 hd6 m pw R5=some true:=by kernel_rfl
end Go.Top
namespace Go.Top
open Go Go.Vc
variable {p:B1} {l:List B1} {i:Nat}
theorem B4w (x:Int) {n:Nat} (hn:0<n) (hn2:n<=1000000):∃ v:Nat,f9 x n=some (v:Int)∧v<n:=by
 unfold f9;rw [B5 (show((n:Int) != 0)=true by simp;omega)];have hp:(0:Int)<n:=by omega
 have hlt2:=Int.tmod_lt_of_pos x hp
 by_cases hneg:Int.tmod x n<0
 ·rw [if_pos (decide_eq_true hneg)];have h3:=Int.lt_tmod_of_pos x hp;rw [F8 (by omega) (by omega)];exact⟨(Int.tmod x n+n).toNat,by rw [Int.toNat_of_nonneg (by omega)],by omega⟩
 ·rw [if_neg (by simp [*])];exact⟨(Int.tmod x n).toNat,by rw [Int.toNat_of_nonneg (by omega)],by omega⟩
theorem A2y {l:List Addr} (h:l.length<=100):A1g l=some l:=by
 unfold A1g
 by_cases h0:0<l.length
 ·rw [if_pos (decide_eq_true (by omega)),B5 (I1 (by simp;omega)),List.nil_append]
 ·have:l=[]:=List.eq_nil_of_length_eq_zero (by omega);subst this;rfl
def X3 (p:B1) (c:Int):I4:=(p.1,c,p.2.1,p.2.2.2.1,R9 p.2.2.2.2.1,R9 p.2.2.2.2.2,2,3)
theorem B6p (hm:1<=(pmacs p).length∧(pmacs p).length<=2) (c:Int):f62 (X3 p c)=some (X3 p c):=by
 have h1:A1b (X3 p c).2.2.2.1=some (X3 p c).2.2.2.1:=A2u (ms:=pmacs p) hm.1 (by omega);have h2:A1g (X3 p c).2.2.2.2.1=some (X3 p c).2.2.2.2.1:=A2y (by have:=W6 p.2.2.2.2.1;show(R9 p.2.2.2.2.1).length<=100;omega);have h3:A1g (X3 p c).2.2.2.2.2.1=some (X3 p c).2.2.2.2.2.1:=A2y (by have:=W6 p.2.2.2.2.2;show(R9 p.2.2.2.2.2).length<=100;omega);simp  [f62,h1,h2,h3]
theorem Row.id_ne (h:Row l) {j:Nat} {q:B1} (hp:l[i]? = some p) (hq:l[j]? = some q) (hij:i≠j):p.1≠q.1:=by
 obtain⟨o,ho,e1⟩:=Mr (h.2 i p hp);obtain⟨o',ho',e2⟩:=Mr (h.2 j q hq)<;>omega
theorem Sx {r:List I4} (h:Row l) (hr:W8 l r) (hp:l[i]? = some p):∃ c,r[i]? = some (X3 p c)∧f28 r p.1=some (true,X3 p c):=by
 have hl:=h.1;have hrl:=hr.len;obtain⟨c,hc⟩:=hr.get i p hp;have hc:r[i]? = some (X3 p c):=hc;have hi:=Hu hp;refine⟨c,hc,?_⟩;have loop:loopF (Xw r p.1) 0=some (.inr (X3 p c)):=C7 (tb:=Xw r p.1) (λk=>(k)) i (by omega) (λk hk=>by
  have hkl:=List.getElem?_eq_getElem (show k<l.length by omega);generalize l[k]=q at hkl;obtain⟨c',hc'⟩:=hr.get k q hkl;have hne:=beq_eq_false_iff_ne.2 (h.id_ne hkl hp (by omega));simp only [Xw,D2 hc',if_true,A9 hc',A0,hne,Bool.false_eq_true,if_false,E8 hc' (by omega)]) (by
  have he:((X3 p c).1==p.1)=true:=beq_self_eq_true _;simp only [Xw,D2 hc,if_true,A9 hc,A0,he,B6p (h.pmacs hp) c])
 simp  [f28,loop,D1]
theorem B3i {t:List Int} (h:t.length=6):∃ b,f85 t=some b:=by
 match t,h with
 | [t0,t1,t2,t3,t4,t5],_ =>
  have e:idx [t0,t1,t2,t3,t4,t5] 5=some t5:=rfl;simp only [f85,A0];split<;>simp_all
end Go.Top
namespace Go.Top
open Go Go.Vc
def repT (n k:Nat):ARP:=(2,N0 (100+k),F9 k,N0 (100+n),F9 n)
structure C64 (a:ARP) (D:List Int):Prop where
 enc:f20 a hd6=some (D,0)
 dec:f19 D hd6=some (0,a)
 len:D.length=28
end Go.Top
namespace Go.Top
open Go Go.Vc
variable {p:B1} {n:Nat}
theorem Wo {α:Type} {P:α->Bool}:∀ {l:List α},(∃ x∈l,P x=true)->∃ (i:Nat) (x:α),l[i]? = some x∧P x=true∧∀ j y,j<i->l[j]? = some y->P y=false
 | [],⟨x,hx,_⟩=>nomatch hx
 | a :: l,⟨x,hx,hp⟩=>by
  cases ha:P a with
  | true=>exact⟨0,a,rfl,ha,λj y hj=>absurd hj (Nat.not_lt_zero _)⟩
  | false =>
   obtain⟨i,y,h1,h2,h3⟩:=Wo (l:=l) (by
    rcases List.mem_cons.1 hx with e | hx
    ·simp_all
    ·exact⟨x,hx,hp⟩)
   refine⟨i+1,y,h1,h2,λj z hj hz => ?_⟩;cases j with
   | zero=>simp_all
   | succ j=>exact h3 j z (by omega) hz
theorem B6q (h:L3 n p):N0 (100+n)∈pmacs p:=by rcases K9 h with e | e<;>rw [e]<;>simp
theorem B3j (h:L3 n p):A1m p=N0 (100+n):=by
 show(pmacs p).headD []=_;rcases K9 h with e | e<;>rw [e]<;>rfl
theorem Qt {α X:Type} {l:List α} (hl:l.length<=1000) {tb:Int->Option (X⊕Int)} {P:α->Bool} (h:∃ x∈l,P x=true) {v:X} (skip:∀ (i:Nat) a,l[i]? = some a->P a=false->tb (i:Int)=some (.inr ((i+1:Nat):Int))) (hit:∀ (i:Nat) a,l[i]? = some a->P a=true->tb (i:Int)=some (.inl v)):loopF tb 0=some v:=by
 obtain⟨i,x,h1,h2,h3⟩:=Wo h;have hi:=Hu h1;exact C7 (λi=>(i:Int)) i (by omega) (λj hj=>skip j _ (List.getElem?_eq_getElem (by omega)) (h3 j _ hj (List.getElem?_eq_getElem (by omega)))) (hit i x h1 h2)
theorem Qu {p:B1} {m:MAC} (hl:(pmacs p).length<=100):loopF (Rj m p) 0=some (if m∈pmacs p then .inr p.1 else .inl ():Unit⊕Int):=by
 by_cases hm:m∈pmacs p
 ·rw [if_pos hm];exact Qt (l:=pmacs p) (by omega) (P:=λx=>Ty.eqT C0 x m) ⟨m,hm,(On _ _).2 rfl⟩ (λi a ha hp=>by
   have ha:p.2.2.2.1[i]? = some a:=ha;simp only [Rj,D2 ha,if_true,A9 ha,A0,hp,Bool.false_eq_true,if_false,E8 ha (by have:p.2.2.2.1.length<=100:=hl;omega)]) (λi a ha hp=>by
   have ha:p.2.2.2.1[i]? = some a:=ha;simp only [Rj,D2 ha,if_true,A9 ha,A0,hp])
 ·rw [if_neg hm];refine I8 (l:=pmacs p) (by omega) (λi a ha => ?_) ?_
  ·have hne:Ty.eqT C0 a m=false:=by
    cases hb:Ty.eqT C0 a m with
    | false=>rfl
    | true=>exact absurd ((On a m).1 hb ▸ List.mem_of_getElem? ha) hm
   have ha:p.2.2.2.1[i]? = some a:=ha;simp only [Rj,D2 ha,if_true,A9 ha,A0,hne,Bool.false_eq_true,if_false,E8 ha (by have:p.2.2.2.1.length<=100:=hl;omega)]
  ·have:decide (((pmacs p).length)<(p.2.2.2.1.length:Int))=false:=Dg p.2.2.2.1;simp only [Rj,this,Bool.false_eq_true,if_false]
end Go.Top
namespace Go.Top
open Go Go.Vc
variable {x:Int}
def By (D:List Int):Prop:=∀ x∈D,0<=x∧x<256
theorem By.at {D:List Int} (h:By D) {i:Nat} (hi:i<D.length):0<=D[i]∧D[i]<256:=h _ (List.getElem_mem hi)
theorem By.app {D E:List Int} (h:By D) (k:By E):By (D++E):=λx hx=>(List.mem_append.1 hx).elim (h x) (k x)
theorem By.take {D:List Int} (h:By D) (n:Nat):By (D.take n):=λx hx=>h x (List.mem_of_mem_take hx)
theorem By.drop {D:List Int} (h:By D) (n:Nat):By (D.drop n):=λx hx=>h x (List.mem_of_mem_drop hx)
theorem By.rep (n:Nat):By (List.replicate n 0):=λx hx=>by simp_all
theorem By.set {D:List Int} (h:By D) (i:Nat) {v:Int} (hv:0<=v∧v<256):By (D.set i v):=λx hx=>(List.mem_or_eq_of_mem_set hx).elim (h x) λe=>by omega
theorem By.cons {D:List Int} {v:Int} (hv:0<=v∧v<256) (h:By D):By (v :: D):=λx hx=>(List.mem_cons.1 hx).elim (λe=>by omega) (h x)
theorem By.nil:By []:=λ_ h=>nomatch h
theorem u8r (x:Int):0<=IntKind.u8.wrap x∧IntKind.u8.wrap x<256:=by
 have h1:=Int.emod_nonneg x (show(256)≠0 by simp);have h2:=Int.emod_lt_of_pos x (show(0)<256 by simp);exact⟨h1,h2⟩
theorem V0 {x:Int} (h:-4611686018427387904<=x) (h2:x<=4611686018427387904):w64 x=x:=F8 (by omega) (by omega)
theorem C2a (h:0<=x) (h2:x<256):X6 .i64 x 8=x*256:=V0 (by show _<=x*256;omega) (by show x*256<=_;omega)
theorem C2b:H5 .i64 x 16=x / 65536:=Int.fdiv_eq_ediv_of_nonneg _ (by decide)
theorem C2c (h:0<=x) (h2:x<4294967296):G8 .and .i64 x 65535=x % 65536:=by
 obtain⟨n,rfl⟩:∃ n:Nat,x=n:=⟨x.toNat,by omega⟩;unfold G8;have e:(BitVec.ofInt IntKind.i64.bits (n) &&& BitVec.ofInt IntKind.i64.bits 65535).toNat=n % 65536:=by
  show((BitVec.ofInt 64 (n)).toNat &&& (BitVec.ofInt 64 65535).toNat)=_;rw [show(BitVec.ofInt 64 (n)).toNat=n from by rw [BitVec.ofInt_natCast,BitVec.toNat_ofNat];omega,show(BitVec.ofInt 64 65535).toNat=2 ^ 16-1 from rfl,Nat.and_two_pow_sub_one_eq_mod]
 show w64 _=_;rw [V0 (by omega) (by omega)];omega
theorem Ky {D:List Int} (hb:By D) (hl:D.length<=2000):Tot (B19 D) (λx=>0<=x∧x<=65535)∧Tot (B1k D) (λx=>0<=x∧x<=65535):=by
 have fin:∀ {n:Int},0<=n->n<=65535->0<=IntKind.u16.wrap (w64 (65535-n))∧IntKind.u16.wrap (w64 (65535-n))<=65535:=fun {n} h0 h1=>by
  rw [V0 (by omega) (by omega),show IntKind.u16.wrap (65535-n)=(65535-n) % 65536 from rfl];omega
 have two:∀ {n:Int},0<=n->n<=130560000->Tot (loopF B18 n) (λx=>0<=x∧x<=65535)∧Tot (loopF B1j n) (λx=>0<=x∧x<=65535):=fun {n} h0 h1=>by
  have key:∀ {tb:Int->Option (Int⊕Int)},(∀ x,tb x=if (decide (65535<x))=true then some (.inr (w64 (H5 .i64 x 16+G8 .and .i64 x 65535))) else some (.inl x))->Tot (loopF tb n) (λx=>0<=x∧x<=65535):=fun {tb} ht=>by
   refine rng 2 (by omega) (λ_ (b)=>b) (λk b=>0<=b∧b<=(if k=0 then 130560000 else if k=1 then 70000 else 65535)) _ n rfl ⟨h0,h1⟩ (λk b hk hb => ?_) (λb hb => ?_)
   ·obtain⟨b0,b1⟩:=hb;rw [ht];refine Tot.ite (λg=>L7 _ rfl ?_) (λg=>B57 ⟨b0,by simp_all⟩);rw [C2b,C2c b0 (by omega),V0 (by omega) (by omega)];omega
   ·rw [ht];exact M1 (decide_eq_false (by omega)) (S9 (by omega))
  exact⟨key λx=>rfl,key λx=>rfl⟩
 have one:∀ {tb:Int×Int->Option (Int⊕(Int×Int))},(∀ (k:Nat) (b:Int) (hk:k<D.length),tb (b,(k))=if ((Int.tmod (k) 2)==0)=true then some (.inr (w64 (b+X6 .i64 (w64 D[k]) 8),w64 ((k)+1))) else some (.inr (w64 (b+w64 D[k]),w64 ((k)+1))))->(∀ b ,tb (b,(D.length))=some (.inl b))->Tot (loopF tb (0,0)) (λn=>0<=n∧n<=130560000):=fun {tb} h1 h2=>by
  refine rng D.length (by omega) (λk (b:Int)=>(b,(k:Int))) (λk b=>0<=b∧b<=65280*k) _ 0 rfl ⟨Int.le_refl _,Int.le_refl _⟩ (λk b hk hb' => ?_) (λb hb' => ?_)
  ·have r:=hb.at hk;have e:w64 D[k]=D[k]:=V0 (by omega) (by omega);rw [h1 k b hk,e,C2a r.1 r.2];refine Tot.ite (λ_=>L7 (b+D[k]*256) (by rw [wN (by omega),V0 (by omega) (by omega)]) ⟨by omega,by omega⟩) (λ_=>L7 (b+D[k]) (by rw [wN (by omega),V0 (by omega) (by omega)]) ⟨by omega,by omega⟩)
  ·rw [h2];exact S9 ⟨hb'.1,by have:=hb'.2;omega⟩
 have lt:∀ {k:Nat},k<D.length->decide ((k:Int)<(D.length:Int))=true:=λh=>decide_eq_true (by omega);constructor
 ·unfold B19;refine Tot.bindT (one (λk b hk => ?_) λb => ?_) λn hn=>Tot.bindT (two hn.1 hn.2).1 λx hx=>Tot.some (fin hx.1 hx.2)
  ·unfold A1h;rw [if_pos (lt hk),A9 (List.getElem?_eq_getElem hk),A0]
  ·unfold A1h;rw [if_neg (by simp)]
 ·unfold B1k;refine Tot.bindT (one (λk b hk => ?_) λb => ?_) λn hn=>Tot.bindT (two hn.1 hn.2).2 λx hx=>Tot.some (fin hx.1 hx.2)
  ·unfold A1j;rw [if_pos (lt hk),A9 (List.getElem?_eq_getElem hk),A0,A0]
  ·unfold A1j;rw [if_neg (by simp)]
end Go.Top
namespace Go.Top
open Go Go.Vc
theorem Dv {i:Int} {n:Nat} (h0:0<=i) (h:i.toNat<=n):leT i n=true:=by unfold leT;simp_all
theorem Pf {i j:Int} {n m:Nat} (h0:0<=i) (h:i.toNat<=n) (h1:0<=j) (h2:j.toNat<=m):(leT i n&&leT j m)=true:=by rw [Dv h0 h,Dv h1 h2];rfl
theorem C61 (x:Int):0<=IntKind.u64.wrap x:=Int.emod_nonneg x (show(18446744073709551616)≠0 by simp)
theorem B97 {x:Int}:Cm (IntKind.u64.wrap x)=true:=decide_eq_true (C61 x)
theorem Gw (a:Addr):Tot (f97 a) (λb=>b=true->a.1=false->a.2.1=0)∧Tot (f83 a) (λb=>b=true->a.1=false->a.2.1=0):=by
 constructor<;>exact Tot.ite (λh=>Tot.some λ_ e=>by simp_all) (λ_=>Tot.ite (λh=>Tot.some λ_ _=>eq_of_beq h) (λ_=>Tot.some (nomatch ·)))
theorem R1 (a:Addr):Tot (f41 a) (λl=>By l∧l.length<=16):=by
 refine Tot.bindT (Gw a).2 λv _=>Tot.ite (λ_=>Tot.some ⟨By.nil,by simp⟩) (λ_ => ?_);refine Tot.jnR (λu  => ∃ n:Nat,u=n∧n<=16∧1<=n) (λj hj=>Tot.ite (λ_=>hj _ ⟨16,rfl,by simp,by simp⟩) (λ_=>hj _ ⟨4,rfl,by simp,by simp⟩)) λu ⟨n,e,h16,h1⟩ => ?_;subst e;refine Tot.bindT (rng n (by omega) (λk (b)=>((n)-1-(k:Int),b)) (λk b=>By b∧b.length=k) (λl=>By l∧l.length<=16) [] (by rw [V0 (by omega) (by omega)];simp) ⟨By.nil,rfl⟩ (λk b hk hb => ?_) (λb hb => ?_)) λl hl=>Tot.some hl
 ·refine T6 (decide_eq_true (by omega)) (Tot.jnR (λ_=>True) (λj hj=>Tot.ite (λ_=>hj _ trivial) (λ_=>hj _ trivial)) λu _=>Tot.chk B97 (Tot.chk (N9 (by rw [List.length_append,hb.2];simp  ;omega)) ?_));refine L7 (b++[IntKind.u8.wrap (H5 .u64 u _)]) (by
   rw [V0 (by omega) (by omega)];congr 1;omega) ⟨hb.1.app (By.cons (u8r _) By.nil),by simp [*]⟩
 ·exact M1 (decide_eq_false (by omega)) (S9 ⟨hb.1,by simp_all⟩)
theorem Fk (a:Addr):Tot (f54 a) (λl=>By l∧l.length<=16∧(a.1=true->l.length=16)):=by
 refine Tot.bindT (P':=λb=>a.1=true->b=true) (by exact Tot.ite (λh=>Tot.some λ_=>rfl) (λh=>Tot.ite (λ_=>Tot.some λe=>by simp_all) (λ_=>Tot.some λe=>by simp_all))) λv hv=>Tot.ite (λh=>Tot.some ⟨By.nil,by simp,λe=>by simp_all⟩) (λ_ => ?_);refine Tot.jnR (λu  => ∃ n:Nat,u=n∧n<=16∧1<=n∧(a.1=true->n=16)) (λj hj=>Tot.ite (λ_=>hj _ ⟨16,rfl,by simp,by simp,λ_=>rfl⟩) (λh=>hj _ ⟨4,rfl,by simp,by simp,λe=>by simp_all⟩)) λu ⟨n,e,h16,h1,h3⟩ => ?_;subst e;refine Tot.chk (by unfold Cm V2;simp;exact show n<=4294967296 by omega) ?_;refine Tot.bindT (rng n (by omega) (λk (b)=>((n)-1-(k:Int),b)) (λk b=>By b.2∧b.2.length=n) (λl=>By l∧l.length=n) (a,List.replicate n 0) (by rw [V0 (by omega) (by omega)];simp) ⟨By.rep _,List.length_replicate ..⟩ (λk b hk hb => ?_) (λb hb => ?_)) λl hl=>Tot.some ⟨hl.1,by omega,λe=>by simp_all⟩
 ·have hi:(n)-1-(k)=((n-1-k:Nat):Int):=by omega
  refine T6 (decide_eq_true (by omega)) (Tot.bindIdx (n-1-k) hi (by rw [hb.2];omega) (Tot.bindIdx (n-1-k) hi (by rw [hb.2];omega) (Tot.chk (decide_eq_true (List.length_set ..)) ?_)));refine L7 (_,List.set b.2 _ (IntKind.u8.wrap b.1.2.2)) (by
   rw [V0 (by omega) (by omega),show(n)-1-(k)-1=(n)-1-((k+1:Nat):Int) from by omega]) ⟨hb.1.set _ (u8r _),by simp_all⟩
 ·exact M1 (decide_eq_false (by omega)) (S9 hb)
theorem Di {D:List Int}:Tot (f50 D) (λ_=>True):=by
 have lp:D.length<=16->Tot (loopF (B54 D) (0,0,0)) (λ_=>True):=λh=>by
  refine rng D.length (by omega) (λk (b)=>((k:Int),b)) (λ_ _=>True) _ (0,0) rfl trivial (λk b hk _ => ?_) (λb _ => ?_)
  ·exact T6 (decide_eq_true (by omega)) (Tot.bindIdx k rfl hk (L7 (_,_) (by rw [wN (by omega)]) trivial))
  ·exact M1 (decide_eq_false (by simp)) (S9 trivial)
 refine Tot.jnR (λ_=>D.length<=16) (λj hj=>Tot.ite (λ_=>Tot.ite (λ_=>Tot.some trivial) (λh=>hj _ ?_)) (λh=>hj _ ?_)) λu h=>Tot.bindT (lp h) λ_ _=>Tot.some trivial
 ·have:=by simpa using h
  omega
 ·have:=by simpa using h
  omega
theorem A5l (y:ARP):Tot (f52 y) (λ_=>True):=by
 have t:=λa=>(Gw a).1.mono λ_ _=>trivial;refine Tot.ite (λ_ => ?_) (λ_=>Tot.ite (λ_ => ?_) (λ_=>Tot.some trivial)) <;>
  exact Tot.bindT (t _) λ_ _=>Tot.ite (λ_=>Tot.ite (λ_=>Tot.bindT (t _) λ_ _=>Tot.ite (λ_=>Tot.some trivial) (λ_=>Tot.some trivial)) (λ_=>Tot.some trivial)) (λ_=>Tot.some trivial)
theorem A2z (D:List Int) (h:MAC):Tot (f19 D h) (λ_=>True):=by
 refine Tot.ite (λ_=>Tot.some trivial) (λg => ?_);have g:=by have:=of_decide_eq_false g;omega
 have tk:∀ n ,n<=28->(List.take n D).length=n:=λn hn=>by rw [List.length_take];omega
 refine Tot.bindIdx 6 rfl (by omega) (Tot.bindIdx 7 rfl (by omega) (Tot.chk (Pf (by simp) (show 14<=_ by omega) (by simp) (by simp_all)) (Tot.chk (Dv (by simp) (by simp_all)) (Tot.chk (Pf (by simp) (show 24<=_ by omega) (by simp) (by simp [*])) (Tot.chk (Dv (by simp) (by simp [*])) (Tot.chk (Pf (by simp) (show 18<=_ by omega) (by simp) (by simp [*])) (Tot.bindT Di λ_ _=>Tot.chk (Pf (by simp) (show 28<=_ by omega) (by simp) (by simp_all)) (Tot.bindT Di λ_ _=>Tot.chk (Dv (by simp) (show 6<=_ by omega)) (Tot.bindT (P':=λ_=>True) ⟨_,rfl,trivial⟩ λ_ _=>Tot.ite (λ_=>Tot.some trivial) (λ_=>Tot.bindT (A5l _) λ_ _=>Tot.ite (λ_=>Tot.some trivial) (λ_=>Tot.some trivial)))))))))))
end Go.Top
namespace Go.Top
open Go Go.Vc
theorem C62 {x y:Int} (h:0<=x) (h2:x<65536) (h3:0<=y) (h4:y<65536):0<=G8 .or .i64 x y∧G8 .or .i64 x y<65536:=by
 obtain⟨n,rfl⟩:∃ n:Nat,x=n:=⟨x.toNat,by omega⟩;obtain⟨m,rfl⟩:∃ m:Nat,y=m:=⟨y.toNat,by omega⟩;have e:(BitVec.ofInt IntKind.i64.bits (n) ||| BitVec.ofInt IntKind.i64.bits (m)).toNat=n ||| m:=by
  show((BitVec.ofInt 64 (n)).toNat ||| (BitVec.ofInt 64 (m)).toNat)=_;rw [BitVec.ofInt_natCast,BitVec.ofInt_natCast,BitVec.toNat_ofNat,BitVec.toNat_ofNat,Nat.mod_eq_of_lt (by omega),Nat.mod_eq_of_lt (by omega)]
 have hb:n ||| m<2 ^ 16:=Nat.or_lt_two_pow (by omega) (by omega);unfold G8;simp only [e];rw [show IntKind.i64.wrap ((n ||| m))=((n ||| m)) from V0 (by omega) (by omega)];omega
theorem Sy {D:List Int} (h:By D) (hl:2<=D.length):Tot (A6b D) (λx=>0<=x∧x<65536):=by
 have a:=h.at (i:=0) (by omega);have b:=h.at (i:=1) (by omega);refine Tot.bindIdx 0 rfl (by omega) (Tot.bindIdx 1 rfl (by omega) (Tot.some ?_));rw [V0 (x:=D[0]) (by omega) (by omega),V0 (x:=D[1]) (by omega) (by omega),C2a a.1 a.2];exact C62 (by omega) (by omega) (by omega) (by omega)
theorem Wp {D:List Int} (hl:D.length<=1000):Tot (B4f D) (λ_=>True):=by
 have e:w64 (Int.tdiv (D.length) 2)=((D.length / 2)):=by
  rw [show Int.tdiv (D.length) 2=((D.length / 2)) from rfl];exact V0 (by omega) (by omega)
 have c:leT (w64 (Int.tdiv (D.length) 2)) D.length=true:=by exact Dv (by omega) (by omega)
 exact Tot.chk c (Tot.bindT Di λ_ _=>Tot.chk c (Tot.bindT Di λ_ _=>Tot.some trivial))
theorem Nb (p:M0):Tot (B4g p) (λ_=>True)∧Tot (f99 p) (λb=>b=true->(p.2.2.2.2.length:Int)<=1480):=by
 have t1:=λa=>(Gw a).1.mono λ_ _=>trivial;have t2:=λa=>(Gw a).2.mono λ_ _=>trivial;constructor
 ·have go:∀ u ,Tot ((f97 p.1).bind λx1=>if x1=true then (f97 p.2.1).bind λx2=>if x2=true then if (p.1.1==p.2.1.1)=true then if decide (0<=p.2.2.1)=true then if decide (p.2.2.1<=255)=true then if decide (0<=p.2.2.2.1)=true then if decide (p.2.2.2.1<=255)=true then some (decide ((p.2.2.2.2.length:Int)<=u)) else some false else some false else some false else some false else some false else some false else some false) (λ_=>True):=λu =>
   Tot.bindT (t1 _) λ_ _=>Tot.ite (λ_=>Tot.bindT (t1 _) λ_ _=>Tot.ite (λ_=>Tot.ite (λ_=>Tot.ite (λ_=>Tot.ite (λ_=>Tot.ite (λ_=>Tot.ite (λ_=>Tot.some trivial) λ_=>Tot.some trivial) λ_=>Tot.some trivial) λ_=>Tot.some trivial) λ_=>Tot.some trivial) λ_=>Tot.some trivial) λ_=>Tot.some trivial) λ_=>Tot.some trivial
  exact Tot.jnR (λ_=>True) (λj hj=>Tot.ite (λ_=>hj _ trivial) (λ_=>hj _ trivial)) λu _=>go u
 ·refine Tot.jnR (λu  => u<=1480) (λj hj=>Tot.ite (λ_=>hj _ (by simp)) (λ_=>hj _ (by simp))) λu hu =>
   Tot.bindT (t2 _) λ_ _=>Tot.ite (λ_=>Tot.bindT (t2 _) λ_ _=>Tot.ite (λ_=>Tot.ite (λ_=>Tot.ite (λ_=>Tot.ite (λ_=>Tot.ite (λ_=>Tot.ite (λ_=>Tot.some λh=>by have:=of_decide_eq_true h;omega) λ_=>Tot.some (nomatch ·)) λ_=>Tot.some (nomatch ·)) λ_=>Tot.some (nomatch ·)) λ_=>Tot.some (nomatch ·)) λ_=>Tot.some (nomatch ·)) λ_=>Tot.some (nomatch ·)) λ_=>Tot.some (nomatch ·)
def X9 (p:M0):Prop:=By p.2.2.2.2∧p.2.2.2.2.length<=1500
theorem X9.zero:X9 ((false,0,0),(false,0,0),0,0,[]):=⟨By.nil,by simp⟩
theorem A5m:(List.range 256).all (λk=>decide (0<=G8 .and .u8 (k:Int) 15)&&decide (G8 .and .u8 (k:Int) 15<=15))=true:=by kernel_rfl
theorem C2d {x:Int} (h:0<=x) (h2:x<256):0<=G8 .and .u8 x 15∧G8 .and .u8 x 15<=15:=by
 obtain⟨n,rfl⟩:∃ n:Nat,x=n:=⟨x.toNat,by omega⟩;have:=M6 A5m (n:=n) (by omega);simp_all
theorem A8z {D:List Int} (h:By D) (hl:D.length<=1500):Tot (B8e D) (λx=>X9 x.2):=by
 refine Tot.ite (λ_=>Tot.some X9.zero) (λg => ?_);have g:20<=D.length:=by have:=of_decide_eq_false g;omega
 have r0:=h.at (i:=0) (by omega);obtain⟨a0,a1⟩:=C2d r0.1 r0.2;refine Tot.bindIdx 0 rfl (by omega) (Tot.chk (Dv (by simp) (show 2<=_ by omega)) (Tot.bindT (Sy (h.drop _) (by rw [List.length_drop];omega)) λx1 ⟨b0,b1⟩ => ?_));have eh:w64 (w64 (G8 .and .u8 D[0] 15)*4)=G8 .and .u8 D[0] 15*4:=by rw [V0 (x:=G8 .and .u8 D[0] 15) (by omega) (by omega),V0 (by omega) (by omega)]
 generalize G8 .and .u8 D[0] 15*4=hd at *;refine Tot.jnR (λu  => u=false->20<=hd∧hd<=x1) (λj hj=>Tot.ite (λ_=>hj _ (nomatch ·)) (λe1=>hj _ λe2 => ?_)) λu hu=>Tot.ite (λ_=>Tot.some X9.zero) (λe => ?_)
 ·simp_all
 ·obtain⟨c0,c1⟩:=hu e;refine Tot.ite (λ_=>Tot.some X9.zero) (λe2 => ?_);have e2:=of_decide_eq_false e2;have tk:∀ n ,n<=D.length->(List.take n D).length=n:=λn hn=>by simp [*]
  refine Tot.chk (Dv (by omega) (by omega)) (Tot.bindT (Ky (h.take _) (by rw [List.length_take];omega)).1 λ_ _=>Tot.ite (λ_=>Tot.some X9.zero) (λ_=>Tot.chk (Dv (by simp) (show 6<=_ by omega)) (Tot.bindT (Sy (h.drop _) (by rw [List.length_drop];omega)) λ_ _=>Tot.ite (λ_=>Tot.some X9.zero) (λ_=>Tot.bindIdx 8 rfl (by omega) (Tot.bindIdx 9 rfl (by omega) (Tot.chk (Pf (by simp) (show 20<=_ by omega) (by simp) (by simp [*])) (Tot.bindT (Wp (by simp_all)) λ_ _ => ?_)))))));refine Tot.chk (Pf b0 (by omega) (by omega) (by rw [tk _ (by omega)];omega)) (Tot.chk (N9 (by rw [List.length_drop,List.length_take];omega)) (Tot.some ⟨(h.take _).drop _,?_⟩));show(List.drop _ (List.take _ D)).length<=1500;rw [List.length_drop,List.length_take];omega
theorem B3k {D:List Int} (h:By D) (hl:D.length<=1500):Tot (B8f D) (λx=>X9 x.2):=by
 refine Tot.ite (λ_=>Tot.some X9.zero) (λg => ?_);have g:40<=D.length:=by have:=of_decide_eq_false g;omega
 have gt:=Sy (h.drop (Int.toNat 4)) (by rw [List.length_drop];omega);obtain⟨x,ex,x0,x1⟩:=gt;have ew:w64 (40+x)=40+x:=V0 (by omega) (by omega);have tk:∀ n ,n<=D.length->(List.take n D).length=n:=λn hn=>by simp [*]
 have c4:leT 4 D.length=true:=Dv (by simp) (show 4<=_ by omega);refine Tot.chk c4 (Tot.bindOf ex (Tot.ite (λ_=>Tot.some X9.zero) (λe => ?_)));have e:=of_decide_eq_false e;refine Tot.bindIdx 6 rfl (by omega) (Tot.bindIdx 7 rfl (by omega) (Tot.chk (Pf (by simp) (show 40<=_ by omega) (by simp) (by simp [*])) (Tot.bindT (Wp (by simp [*])) λ_ _=>Tot.chk c4 (Tot.bindOf ex ?_))));refine Tot.chk (Pf (by omega) (by omega) (by simp) (by rw [tk _ (by omega)];omega)) (Tot.chk (N9 (by rw [List.length_drop,List.length_take];omega)) (Tot.some ⟨(h.take _).drop _,?_⟩));rw [List.length_drop,List.length_take];omega
theorem Nc {D:List Int} (h:By D) (hl:D.length<=1500):Tot (B4h D) (λx=>X9 x.2):=by
 refine Tot.ite (λ_=>Tot.some X9.zero) (λg => ?_);have g:=by have:=beq_eq_false_iff_ne.1 g;omega
 refine Tot.jnR (λu  => X9 u.2) (λj hj=>Tot.bindIdx 0 rfl (by omega) (Tot.ite (λ_=>Tot.bindT (A8z h hl) λx hx=>hj _ hx) (λ_=>Tot.ite (λ_=>Tot.bindT (B3k h hl) λx hx=>hj _ hx) (λ_=>hj _ X9.zero)))) λu hu => ?_;exact Tot.jnR (λ_=>True) (λj hj=>Tot.ite (λ_=>Tot.bindT (Nb _).1 λ_ _=>Tot.ite (λ_=>hj _ trivial) (λ_=>hj _ trivial)) (λ_=>hj _ trivial)) λv _=>Tot.ite (λ_=>Tot.some X9.zero) (λ_=>Tot.some hu)
end Go.Top
namespace Go.Top
open Go Go.Vc
theorem Gx {α X:Type} {l:List α} (hl:l.length<=100) {tb:Int->Option ((Unit⊕X)⊕Int)} {Q:X->Prop} (step:∀ (i:Nat) (hi:i<l.length),Tot (tb (i:Int)) (λy=>(∃ x,y = .inl (.inr x)∧Q x)∨y = .inr (w64 ((i:Int)+1)))) (fin:tb (l.length:Int)=some (.inl (.inl ()))):Tot (loopF tb 0) (λy=>∀ x,y = .inr x->Q x):=by
 refine rng l.length (by omega) (λk (_)=>(k:Int)) (λ_ _=>True) _ () rfl trivial (λk b hk _ => ?_) (λb _ => ?_)
 ·refine(step k hk).mono λy hy => ?_;rcases hy with ⟨x,rfl,hx⟩ | rfl
  ·exact λz e=>by simp_all
  ·exact⟨(),by rw [wN (by omega)],trivial⟩
 ·rw [fin];exact S9 λx h=>nomatch h
theorem A30 {ms:List MAC} (hl:ms.length<=100) (x:MAC):Tot (f84 ms x) (λb=>b=true->x∈ms):=by
 refine Tot.bindT (P':=λv=>0<=v->x∈ms) ?_ λv hv=>Tot.some λh=>hv (of_decide_eq_true h);refine Tot.bindT (Gx (l:=ms) (Q:=λ_=>x∈ms) hl (λi hi => ?_) ?_) λy hy => ?_
 ·exact T6 (decide_eq_true (by omega)) (Tot.bindIdx i rfl hi (Tot.ite (λh=>Tot.some (.inl ⟨_,rfl,by rw [(On _ _).1 h];simp_all⟩)) (λ_=>Tot.some (.inr rfl))))
 ·unfold B16;simp_all
 ·cases y with
  | inl _=>exact Tot.some λh=>by omega
  | inr z=>exact Tot.some λ_=>hy z rfl
theorem Nd {l:List Addr} (hl:l.length<=100) (x:Addr):Tot (f145 l x) (λ_=>True):=by
 refine Tot.bindT (P':=λ_=>True) ?_ λv _=>Tot.some trivial;refine Tot.bindT (Gx (l:=l) (Q:=λ_=>True) hl (λi hi => ?_) ?_) λy hy => ?_
 ·exact T6 (decide_eq_true (by omega)) (Tot.bindIdx i rfl hi (Tot.ite (λh=>Tot.some (.inl ⟨_,rfl,trivial⟩)) (λ_=>Tot.some (.inr rfl))))
 ·unfold B17;simp_all
 ·cases y with
  | inl _=>exact Tot.some trivial
  | inr z=>exact Tot.some trivial
theorem Wq (p:G2) (a:Addr):Tot (f146 p a) (λ_=>True):=by
 refine Tot.ite (λ_=>Tot.ite (λ_=>Tot.bindT (P':=λ_=>True) (by exact Tot.ite (λ_=>Tot.some trivial) λ_=>Tot.some trivial) λx0 _=>Tot.ite (λ_=>Tot.bindT (P':=λ_=>True) ?_ λ_ _=>Tot.some trivial) λ_=>Tot.some trivial) λ_=>Tot.some trivial) λ_=>Tot.some trivial;refine Tot.bindT (P':=λ_=>True) (by exact Tot.ite (λ_=>Tot.some trivial) λ_=>Tot.some trivial) λx _=>Tot.bindT (P':=λ_=>True) ?_ λ_ _=>Tot.some trivial;exact Tot.ite (λ_=>Tot.chk B97 (Tot.some trivial)) λ_=>Tot.chk B97 (Tot.some trivial)
theorem A5n (a b:Addr) (n:Int) {D:List Int} (h:By D) (hl:D.length<=1500):Tot (B8g a b n D) (λ_=>True):=by
 refine Tot.bindT (Fk a) λx0 h0=>Tot.bindT (Fk b) λx1 h1=>Tot.bindT (P':=λl=>By l∧l.length=2) (by exact Tot.chk rfl (Tot.some ⟨By.cons (u8r _) (By.cons (u8r _) By.nil),rfl⟩)) λx2 h2=>Tot.bindT (P':=λl=>By l∧l.length=4) (by exact Tot.chk (N9 (by simp_all)) (Tot.some ⟨h2.1.app (By.cons (u8r _) (By.cons (u8r _) By.nil)),by simp_all⟩)) λx3 h3 => ?_;have e:([x0,x1,x3,([0,0,0,(IntKind.u8.wrap n)]),D]).flatten=x0++(x1++(x3++([0,0,0,IntKind.u8.wrap n]++D))):=by simp
 have hb:By (x0++(x1++(x3++([0,0,0,IntKind.u8.wrap n]++D)))):=h0.1.app (h1.1.app (h3.1.app ((By.cons (by simp) (By.cons (by simp) (By.cons (by simp) (By.cons (u8r _) By.nil)))).app h)));have hlen:(x0++(x1++(x3++([0,0,0,IntKind.u8.wrap n]++D)))).length<=1600:=by
  simp  ;omega
 have ej:f53 ([x0,x1,x3,([0,0,0,(IntKind.u8.wrap n)]),D]) []=some (x0++(x1++(x3++([0,0,0,IntKind.u8.wrap n]++D)))):=by
  show Tz _ _=_;unfold Tz;rw [e,B5];simp only [Bool.and_eq_true,List.all_eq_true,B0n,decide_eq_true_eq];exact⟨⟨⟨⟨rfl,Nat.le_of_ble_eq_true rfl⟩,show 5<=4294967296 by simp⟩,show _<=4294967296 by omega⟩,λx hx=>hb x hx⟩
 exact Tot.bindOf ej (Tot.bindT (Ky hb (by omega)).1 λ_ _=>Tot.some trivial)
theorem A00 {p:M0} (h:X9 p):Tot (f205 p) (λc=>c=0->4<=p.2.2.2.2.length):=by
 refine Tot.bindT (Nb p).1 λ_ _=>Tot.ite (λ_=>Tot.some (nomatch ·)) (λ_ => ?_);refine Tot.jnR (λ_=>True) (λj hj=>Tot.ite (λ_=>hj _ trivial) (λ_=>hj _ trivial)) λu _=>Tot.ite (λ_=>Tot.some (nomatch ·)) (λ_=>Tot.ite (λ_=>Tot.some (nomatch ·)) (λ_=>Tot.ite (λ_=>Tot.some (nomatch ·)) (λg => ?_)));have g:4<=p.2.2.2.2.length:=by have:=of_decide_eq_false g;omega
 exact Tot.bindT (A5n _ _ _ h.1 h.2) λ_ _=>Tot.ite (λ_=>Tot.some (nomatch ·)) (λ_=>Tot.bindIdx 0 rfl (by omega) (Tot.ite (λ_=>Tot.some (nomatch ·)) (λ_=>Tot.bindIdx 0 rfl (by omega) (Tot.ite (λ_=>Tot.some (nomatch ·)) (λ_=>Tot.bindIdx 1 rfl (by omega) (Tot.ite (λ_=>Tot.some (nomatch ·)) (λ_=>Tot.some λ_=>g)))))))
theorem A5o (k fl:Int) (hs:Bool) (m:MAC):Tot (B8h (k,fl,(true,0,0),hs,m)) (λl=>l.length<=36∧(135<=k->k<=137->20<=l.length)):=by
 refine Tot.bindT (Fk _) λx hx => ?_;have h16:=hx.2.2 rfl;refine Tot.ite (λg=>Tot.chk rfl (Tot.some ⟨by simp,λh=>by simp_all⟩)) (λ_=>Tot.ite (λg=>Tot.chk rfl (Tot.some ⟨by simp,λh=>by simp_all⟩)) (λ_=>Tot.ite (λg=>Tot.chk rfl (Tot.chk (N9 (by simp_all)) (Tot.chk (N9 (by simp_all)) (Tot.some ⟨?_,λ_ _ => ?_⟩)))) (λ_=>Tot.chk (N9 (by simp_all)) (Tot.some ⟨?_,λ_ _ => ?_⟩))))<;>simp_all
theorem Wr {D:List Int} (h:By D) (hl:D.length<=1500) (n:Int):Tot (B4i D n) (λ_=>True):=by
 refine Tot.bindT (P':=λ_=>True) ?_ λy _ => ?_
 ·refine C28 (λs  => By s.1∧s.1.length<=1500) (λs=>s.1.length) (λ_=>True) ⟨h,hl⟩ (by show D.length<=10000;omega) λs hs => ?_;obtain⟨b,hs⟩:=hs;refine Tot.ite (λ_ => ?_) (λ_=>Tot.out trivial);refine Tot.jnR (λu  => u=false->∃ h2:1<s.1.length,1<=s.1[1]∧s.1[1]*8<=(s.1.length)) (λj hj=>Tot.ite (λ_=>hj _ (nomatch ·)) (λg => ?_)) λu hu=>Tot.ite (λ_=>Tot.out trivial) (λhu' => ?_)
  ·have g:=by have:=of_decide_eq_false g;omega
   have r:=b.at (i:=1) (by omega);refine Tot.bindIdx 1 rfl (by omega) (Tot.ite (λ_=>hj _ (nomatch ·)) (λe0=>Tot.bindIdx 1 rfl (by omega) (hj _ λe=>⟨by omega,?_,?_⟩)))
   ·have:=beq_eq_false_iff_ne.1 e0;omega
   ·have:=of_decide_eq_false e;rw [V0 (x:=s.1[1]) (by omega) (by omega),V0 (by omega) (by omega)] at this;omega
  ·obtain⟨h2,h3,h4⟩:=hu hu';refine Tot.jnR (λ_=>True) (λj hj=>Tot.jnR (λ_=>True) (λj' hj'=>Tot.ite (λ_=>Tot.bindIdx 0 rfl (by omega) (Tot.ite (λ_=>Tot.bindIdx 1 rfl (by omega) (hj' _ trivial)) (λ_=>hj' _ trivial))) (λ_=>hj' _ trivial)) λu6 _=>Tot.ite (λ_ => ?_) (λ_=>hj _ trivial)) λu2 _ => ?_
   ·have t8:(List.take (Int.toNat 8) s.1).length=8:=by rw [List.length_take];omega
    exact Tot.chk (Pf (by simp) (show 8<=_ by omega) (by simp) (by omega)) (Tot.chk (Dv (by simp) (by simp_all)) (hj _ trivial))
   ·refine Tot.bindIdx 1 rfl (by omega) ?_;rw [V0 (x:=s.1[1]) (by omega) (by omega),V0 (by omega) (by omega)];refine Tot.chk (Dv (by omega) (by omega)) (Tot.next ⟨b.drop _,?_⟩ ?_)
    ·rw [List.length_drop];omega
    ·rw [List.length_drop];omega
 ·cases y<;>exact Tot.some trivial
theorem Gy {p:M0} (h:X9 p):Tot (B4j p) (λ_=>True):=by
 refine Tot.bindT (A00 h) λc hc=>Tot.ite (λ_=>Tot.some trivial) (λg => ?_);have g:=hc (by simp_all);have r:=h.1.at (i:=0) (by omega);refine Tot.bindIdx 0 rfl (by omega) (Tot.chk (Dv (by simp) (show 4<=_ by omega)) ?_);rw [V0 (x:=p.2.2.2.2[0]) (by omega) (by omega)];refine Tot.bindT (A5o _ _ _ _) λx2 hx=>Tot.ite (λ_=>Tot.some trivial) (λg2 => ?_);have g2:=of_decide_eq_false g2;have hd:By (List.drop (Int.toNat 4) p.2.2.2.2):=h.1.drop _;have hdl:(List.drop (Int.toNat 4) p.2.2.2.2).length<=1500:=by rw [List.length_drop];have:=h.2;omega
 generalize List.drop (Int.toNat 4) p.2.2.2.2=D at *;have tail:∀ (u5:Addr) (u6:Int),Tot (chk (leT (x2.length) D.length) <|
   (B8j p.2.2.2.2[0]).bind λx8=>(B4i (List.drop (Int.toNat (x2.length)) D) x8).bind λx9 =>
   if (!x9.2.1)=true then (some (5,0,0,(false,0,0),false,(List.replicate 6 0)):Option (Int×Q6)) else if (p.2.2.2.2[0]==135)=true then if x9.1=true then if (Ty.eqT A5 p.1 (true,0,0))=true then some (5,0,0,(false,0,0),false,(List.replicate 6 0)) else some (0,p.2.2.2.2[0],u6,u5,x9.1,x9.2.2) else some (0,p.2.2.2.2[0],u6,u5,x9.1,x9.2.2) else some (0,p.2.2.2.2[0],u6,u5,x9.1,x9.2.2)) (λ_=>True):=λu5 u6=>by
  refine Tot.chk (Dv (by omega) (by omega)) (Tot.bindT (P':=λ_=>True) (by exact Tot.ite (λ_=>Tot.some trivial) λ_=>Tot.ite (λ_=>Tot.some trivial) λ_=>Tot.some trivial) λx8 _=>Tot.bindT (Wr (hd.drop _) (by rw [List.length_drop];omega) x8) λx9 _=>Tot.ite (λ_=>Tot.some trivial) λ_=>Tot.ite (λ_=>Tot.ite (λ_=>Tot.ite (λ_=>Tot.some trivial) λ_=>Tot.some trivial) λ_=>Tot.some trivial) λ_=>Tot.some trivial)
 refine Tot.jnR (λ_=>True) (λj hj=>Tot.bindT (P':=λb=>b=true->135<=p.2.2.2.2[0]∧p.2.2.2.2[0]<=137) (by exact Tot.ite (λe=>Tot.some λe2=>⟨of_decide_eq_true e,of_decide_eq_true e2⟩) λ_=>Tot.some (nomatch ·)) λx13 h13=>Tot.ite (λe => ?_) (λ_=>hj _ trivial)) λu5 _=>Tot.jnR (λ_=>True) (λj hj=>Tot.ite (λe => ?_) (λ_=>hj _ trivial)) λu6 _=>tail u5 u6
 ·obtain⟨k1,k2⟩:=h13 e;have t20:(List.take (Int.toNat 20) D).length=20:=by rw [List.length_take];omega
  exact Tot.chk (Pf (by simp) (show 20<=_ by omega) (by decide) (by rw [t20];decide)) (Tot.bindT Di λ_ _=>Tot.bindOf (show B8i _=some _ from rfl) (Tot.ite (λ_=>Tot.some trivial) (λ_=>hj _ trivial)))
 ·have e:=eq_of_beq e;have l20:=hx.2 (by omega) (by omega);exact Tot.bindIdx 0 rfl (by omega) (hj _ trivial)
end Go.Top
namespace Go.Top
open Go Go.Vc
variable {R:I4}
theorem Sz {m:MAC} (h:m.length=6):Tot (f90 m) (λ_=>True):=by
 exact Tot.bindIdx 0 rfl (by omega) (Tot.some trivial)
theorem Kz {fr:Frame} (h:fr.1.length=6):Tot (f43 fr) (λ_=>True):=by
 exact Tot.bindT (Sz h) λ_ _=>Tot.some trivial
structure Km (fr:Frame):Prop where
 dst:fr.1.length=6
 src:fr.2.1.length=6
 by':By fr.2.2.2.2
theorem Qv {fr:Frame} (h:Km fr):Tot (f87 fr) (λ_=>True):=by
 exact Tot.bindOf (rfl) (Tot.ite (λ_=>Tot.some trivial) λ_=>Tot.bindT (Kz h.dst) λ_ _=>Tot.ite (λ_=>Tot.some trivial) λ_=>Tot.some trivial)
theorem A90 {fr:Frame} (h:Km fr) (hl:fr.2.2.2.2.length<=1500):Tot (f88 fr) (λx=>X9 x.2):=by
 refine Tot.bindT (Nc h.by' hl) λx hx=>Tot.ite (λ_=>Tot.some X9.zero) λ_=>Tot.ite (λ_=>Tot.some X9.zero) λ_=>Tot.ite (λ_=>Tot.some X9.zero) λg => ?_;have g:=by have:=beq_eq_false_iff_ne.1 g;omega
 exact Tot.bindIdx 0 rfl (by omega) (Tot.ite (λ_=>Tot.some X9.zero) λ_=>Tot.bindIdx 0 rfl (by omega) (Tot.ite (λ_=>Tot.some X9.zero) λ_=>Tot.some hx))
structure Uk (R:I4):Prop where
 ms:R.2.2.2.1.length<=100
 v4:R.2.2.2.2.1.length<=100
 v6:R.2.2.2.2.2.1.length<=100
theorem A01 (h:Uk R) (fr:Frame) (p:M0) (n:Q6):Tot (B8l R fr p n) (λ_=>True):=by
 refine Tot.bindT (Nd h.v6 _) λx0 _=>Tot.jnR (λ_=>True) (λj hj=>Tot.ite (λ_=>Tot.ite (λ_=>hj _ trivial) λ_=>hj _ trivial) λ_=>hj _ trivial) λu1 _=>Tot.jnR (λ_=>True) (λj hj=>Tot.jnR (λ_=>True) (λj' hj'=>Tot.ite (λ_=>hj' _ trivial) λ_=>hj' _ trivial) λu4 _=>Tot.ite (λ_=>Tot.some trivial) λ_=>Tot.ite (λ_=>Tot.bindT (Nd h.v6 _) λ_ _=>Tot.ite (λ_=>Tot.some trivial) λ_=>hj _ trivial) λ_=>hj _ trivial) λ_ _=>Tot.ite (λ_=>Tot.some trivial) λ_=>Tot.some trivial
theorem Ta (a:Addr):Tot (B8m a) (λm=>m.length=6)∧Tot (B4k a) (λm=>m.length=6):=by
 exact⟨Tot.ite (λ_=>Tot.some rfl) λ_=>Tot.some rfl,Tot.ite (λ_=>Tot.some rfl) λ_=>Tot.some rfl⟩
theorem A5p (hR:Uk R) (p6:G2) {fr:Frame} (h:Km fr) {p:M0} (hp:X9 p):Tot (f89 R p6 fr p) (λ_=>True):=by
 refine Tot.bindT (Gy hp) λx0 _=>Tot.ite (λ_=>Tot.some trivial) λ_=>Tot.jnR (λ_=>True) (λj hj=>Tot.ite (λ_=>hj _ trivial) λ_=>hj _ trivial) λu _=>Tot.ite (λ_=>Tot.some trivial) λ_=>Tot.bindT (Wq _ _) λ_ _=>Tot.ite (λ_=>Tot.some trivial) λ_=>Tot.bindT (A01 hR _ _ _) λ_ _=>Tot.ite (λ_=>Tot.some trivial) λ_=>Tot.bindT (Kz h.dst) λ_ _=>Tot.ite (λ_=>Tot.ite (λ_=>Tot.some trivial) λ_=>Tot.bindT (Ta _).1 λ_ _=>Tot.ite (λ_=>Tot.some trivial) λ_=>Tot.some trivial) λ_=>Tot.some trivial
theorem A91 (hR:Uk R) (p4:G2) {fr:Frame} (h:Km fr) (hd:MAC):Tot (f86 R p4 fr hd) (λ_=>True):=by
 refine Tot.bindT (A2z _ _) λx0 _=>Tot.ite (λ_=>Tot.some trivial) λ_=>Tot.jnR (λ_=>True) (λj hj=>Tot.ite (λ_=>hj _ trivial) λ_=>Tot.bindT (Nd hR.v4 _) λ_ _=>hj _ trivial) λu _=>Tot.ite (λ_=>Tot.some trivial) λ_=>Tot.bindT (Wq _ _) λ_ _=>Tot.ite (λ_=>Tot.some trivial) λ_=>Tot.bindT (Kz h.dst) λ_ _=>Tot.ite (λ_=>Tot.bindOf (rfl) (Tot.ite (λ_=>Tot.some trivial) λ_=>Tot.some trivial)) λ_=>Tot.some trivial
theorem A5q (hR:Uk R) (p4 p6:G2) {fr:Frame} (h:Km fr) (hd:MAC):Tot (f42 R p4 p6 fr hd) (λc=>c=0->fr.2.1∈R.2.2.2.1∧fr.2.2.1=0∧fr.2.2.2.2.length<=1500):=by
 refine Tot.ite (λ_=>Tot.some (nomatch ·)) λg => ?_;have g:fr.2.2.2.2.length<=1500:=by have:=of_decide_eq_false g;omega
 obtain⟨b,eb⟩:=B3i h.dst;refine Tot.bindT (A30 hR.ms _) λx hx=>Tot.ite (λ_=>Tot.some (nomatch ·)) λgx=>Tot.bindOf eb (Tot.ite (λ_=>Tot.some (nomatch ·)) λ_=>Tot.ite (λ_=>Tot.some (nomatch ·)) λgv => ?_);have hm:=hx (by simp_all);have hv:=by simpa using gv
 have out:∀ {o:Option Int},Tot o (λ_=>True)->Tot (o.bind λx=>some x) (λc=>c=0->fr.2.1∈R.2.2.2.1∧fr.2.2.1=0∧fr.2.2.2.2.length<=1500):=λho=>Tot.bindT ho λ_ _=>Tot.some λ_=>⟨hm,hv,g⟩;exact Tot.ite (λ_=>out (A91 hR _ h _)) λ_=>Tot.ite (λ_=>out (Qv h)) λ_=>Tot.ite (λ_=>Tot.bindT (A90 h g) λx4 h4=>Tot.ite (λ_=>out (A5p hR _ h h4)) λ_=>out (Qv h)) λ_=>Tot.some (nomatch ·)
end Go.Top
namespace Go.Top
open Go Go.Vc
variable {b:List A7} {r:List I4}
def Who (r:List I4) (b:List A7) (P:Int) (m:MAC):Prop:=(∃ R∈r,R.1=P∧m∈R.2.2.2.1)∨∃ a,(a,m,P)∈b
theorem A5r (hl:r.length<=100) (hr:∀ R∈r,Uk R) (m:MAC):Tot (B8n r m) (λx=>x.2=true->∃ R∈r,R.1=x.1∧m∈R.2.2.2.1):=by
 refine Tot.bindT (Gx (l:=r) (Q:=λP  => ∃ R∈r,R.1=P∧m∈R.2.2.2.1) hl (λi hi => ?_) ?_) λy hy => ?_
 ·exact T6 (decide_eq_true (by omega)) (Tot.bindIdx i rfl hi (Tot.bindT (A30 (hr _ (List.getElem_mem hi)).ms m) λv hv=>Tot.ite (λh=>Tot.some (.inl ⟨_,rfl,_,List.getElem_mem hi,rfl,hv h⟩)) (λ_=>Tot.some (.inr rfl))))
 ·unfold B1a;simp_all
 ·cases y with
  | inl _=>exact Tot.some (nomatch ·)
  | inr z=>exact Tot.some λ_=>hy z rfl
theorem A5s (hl:b.length<=100) (a:Addr):Tot (B8p b a) (λx=>x.1=true->x.2∈b):=by
 refine Tot.bindT (Gx (l:=b) (Q:=λx=>x∈b) hl (λi hi => ?_) ?_) λy hy => ?_
 ·exact T6 (decide_eq_true (by omega)) (Tot.bindIdx i rfl hi (Tot.ite (λh=>Tot.some (.inl ⟨_,rfl,List.getElem_mem hi⟩)) (λ_=>Tot.some (.inr rfl))))
 ·unfold B1b;simp_all
 ·cases y with
  | inl _=>exact Tot.some (nomatch ·)
  | inr z=>exact Tot.some λ_=>hy z rfl
theorem A92 {fr:Frame} (h:Km fr) (hl:fr.2.2.2.2.length<=1500) (hd:MAC):Tot (B8o fr hd) (λ_=>True):=by
 refine Tot.jnR (λ_=>True) (λj hj=>Tot.ite (λ_=>Tot.bindOf (rfl) (hj _ trivial)) λ_=>hj _ trivial) λu _=>Tot.ite (λ_=>Tot.bindT (A2z _ _) λ_ _=>Tot.ite (λ_=>Tot.some trivial) λ_=>Tot.some trivial) λ_ => ?_;refine Tot.jnR (λ_=>True) (λj hj=>Tot.ite (λ_=>Tot.bindT (Sz h.dst) λ_ _=>hj _ trivial) λ_=>hj _ trivial) λu _=>Tot.ite (λ_=>Tot.bindT (Nc h.by' hl) λx hx=>Tot.ite (λ_=>Tot.some trivial) λ_=>Tot.bindT (Gy hx) λ_ _=>Tot.jnR (λ_=>True) (λj hj=>Tot.ite (λ_=>hj _ trivial) λ_=>hj _ trivial) λ_ _=>Tot.ite (λ_=>Tot.some trivial) λ_=>Tot.some trivial) λ_=>Tot.some trivial
theorem A02 (hl:r.length<=100) (hr:∀ R∈r,Uk R) (hb:b.length<=100) {fr:Frame} (h:Km fr) (hf:fr.2.2.2.2.length<=1500) (hd:MAC):Tot (f91 r b fr hd) (λx=>x.2.1=true->Who r b x.1 x.2.2):=by
 refine Tot.bindT (Sz h.dst) λg _=>Tot.ite (λ_=>Tot.bindT (A5r hl hr _) λx hx=>Tot.some λe => .inl (hx e)) λ_=>Tot.bindT (A92 h hf hd) λx _=>Tot.bindT (A5s hb _) λy hy=>Tot.ite (λ_=>Tot.some λe => .inr ⟨y.2.1,hy e⟩) λ_=>Tot.some (nomatch ·)
theorem A5t {l:List Int} (h:l.length<=4000):f92 l=some l:=by
 unfold f92;have e:(([])++l)=l:=rfl;rw [e,B5 (N9 (by omega))]
 by_cases g:0<l.length
 ·simp [*]
 ·have:l=[]:=List.eq_nil_of_length_eq_zero (by omega);subst this;rfl
theorem Ws (hl:r.length<=100) (hr:∀ R∈r,Uk R) (hb:b.length<=100) {fr:Frame} (h:Km fr) (hf:fr.2.2.2.2.length<=1500) (hd:MAC) (P:Int):Tot (f45 r b P fr hd) (λx=>x.2.1=0->x.1≠P∧Who r b x.1 x.2.2.1∧x.2.2.2=fr.2):=by
 refine Tot.bindT (A02 hl hr hb h hf hd) λx hx=>Tot.jnR (λu  => u=false->x.2.1=true∧x.1≠P) (λj hj=>Tot.ite (λ_=>hj _ (nomatch ·)) λg=>hj _ λe=>⟨by simp_all,beq_eq_false_iff_ne.1 e⟩) λu hu=>Tot.ite (λ_=>Tot.some (nomatch ·)) λe => ?_;obtain⟨u1,u2⟩:=hu e;exact Tot.bindOf (A5t (by omega)) (Tot.some λ_=>⟨u2,hx u1,rfl⟩)
theorem A93 {a b:MAC} (ha:a.length=6) (hb:b.length=6):Tot (f47 a b) (λ_=>True):=by
 refine Tot.bindT (P':=λl  => l.length=12) ?_ λl hl=>Tot.bindT (P':=λ_=>True) ?_ λ_ _=>Tot.some trivial
 ·have l6:∀ {k:Nat} (hk:k<2),(([a,b])[k]).length=6:=fun {k} hk=>by
   match k,hk with
   | 0,_=>exact ha
   | 1,_=>exact hb
  refine Tot.bindT (P':=λn  => n=12) (rng 2 (by omega) (λk (_)=>((6*(k:Int)),(k:Int))) (λ_ _=>True) _ () rfl trivial (λk _ hk _ => ?_) (λ_ _ => ?_)) λn hn => ?_
  ·refine T6 (decide_eq_true (by show(k:Int)<2;omega)) (Tot.bindIdx k rfl hk ?_);rw [l6 hk];have e:w64 (6*(k)+((6:Nat)))=6*((k+1:Nat)):=by rw [V0 (by omega) (by omega)];omega
   simp only [e];exact M1 (decide_eq_false (by omega)) (L7 () (by rw [wN (by omega)]) trivial)
  ·exact M1 rfl (S9 rfl)
  ·subst hn;refine Tot.bindOf (rfl) (Tot.bindT (rng 2 (by omega) (λk (v)=>((k:Int),v)) (λk v=>v.length=6*k) (λl=>l.length=12) [] rfl rfl (λk v hk hv => ?_) (λv hv => ?_)) λl hl=>Tot.some hl)
   ·refine T6 (decide_eq_true (by show(k:Int)<2;omega)) (Tot.bindIdx k rfl hk (Tot.chk (N9 (by rw [List.length_append,l6 hk,hv];omega)) (L7 _ (by rw [wN (by omega)]) (by rw [List.length_append,l6 hk,hv];omega))))
   ·exact M1 rfl (S9 hv)
 ·refine rng l.length (by omega) (λk (v)=>(v,(k:Int))) (λ_ _=>True) _ 0 rfl trivial (λk v hk _ => ?_) (λv _ => ?_)
  ·exact T6 (decide_eq_true (by omega)) (Tot.bindIdx k rfl hk (L7 _ (by rw [wN (by omega)]) trivial))
  ·exact M1 (decide_eq_false (by simp)) (S9 trivial)
end Go.Top
namespace Go.Top
open Go Go.Vc
variable {p:B1} {b:List A7} {l:List B1} {r:List I4} {m:MAC} {i:Nat}
theorem A94 (h:Row l) {j:Nat} {q:B1} (hp:l[i]? = some p) (hq:l[j]? = some q) (h1:m∈pmacs p) (h2:m∈pmacs q):i=j:=by
 have hi:=(List.getElem?_eq_some_iff.1 hp).1;have hj:=(List.getElem?_eq_some_iff.1 hq).1;have hl:=h.1;have num:∀ {k:Nat} {p:B1},k<14->l[k]? = some p->m∈pmacs p->m=N0 (100+(k+1))∨m=N0 (200+(k+1)):=fun {k p} hk hp hm=>by
  rcases K9 (h.2 k p hp) with e | e<;>simp_all
 rcases num (by omega) hp h1 with e | e<;>rcases num (by omega) hq h2 with e' | e'<;>(rw [e] at e';have:=Mq e';omega)
theorem A5u {d:A6} (h:J4 d) {j:Nat} {q:B1} (hq:(D9 (A8 d))[j]? = some q) (hmq:m∈pmacs q):f22 d m=some q.1:=by
 obtain⟨l,e1,e2,e3⟩:=A2v h;have hr:=h.row;have hl:=hr.1;have port:∀ p∈l,m∈pmacs p->p=q:=λp hp hm=>by
  obtain⟨i,hi⟩:=List.getElem?_of_mem ((e3 p).1 hp);have:=A94 hr hi hq hm hmq;simp_all
 have few:∀ p∈l,(pmacs p).length<=100:=λp hp=>by
  obtain⟨i,hi⟩:=List.getElem?_of_mem ((e3 p).1 hp);have:=hr.pmacs hi;omega
 have:=Qt (l:=l) (by omega) (tb:=A3j m l) (P:=λp=>decide (m∈pmacs p)) (v:=(.inr q.1)) ⟨q,(e3 q).2 (List.mem_of_getElem? hq),decide_eq_true hmq⟩ (λi a ha hp=>by
  have hm:=of_decide_eq_false hp;have:=Qu (m:=m) (few a (List.mem_of_getElem? ha));rw [if_neg hm] at this;simp only [A3j,D2 ha,if_true,A9 ha,A0,this,D1,E8 ha (by omega)]) (λi a ha hp=>by
  have hm:=of_decide_eq_true hp;have:=Qu (m:=m) (few a (List.mem_of_getElem? ha));rw [if_pos hm] at this;have eq:=port a (List.mem_of_getElem? ha) hm;rw [eq] at this ha;simp only [A3j,D2 ha,if_true,A9 ha,A0,this,D1])
 simp  [f22,e1,this,D1]
theorem A95 {n:Nat} (h:L3 n p) (hm:m∈pmacs p):m.length=6:=by
 rcases K9 h with e | e<;>rw [e] at hm<;>simp at hm
 ·rw [hm];rfl
 ·rcases hm with e | e<;>rw [e]<;>rfl
theorem A96 (h:Row l) (hr:W8 l r) (hb:b.Perm (T5 l)) {P:Int} (hw:Who r b P m):∃ (j:Nat) (q:B1),l[j]? = some q∧q.1=P∧m∈pmacs q:=by
 rcases hw with ⟨R,hR,e,hm⟩ | ⟨a,ha⟩
 ·obtain⟨j,hj⟩:=List.getElem?_of_mem hR;have hlt:j<l.length:=by rw [<- hr.len];exact(List.getElem?_eq_some_iff.1 hj).1
  have hq:=List.getElem?_eq_getElem hlt;obtain⟨c,hc⟩:=hr.get j _ hq;rw [hj] at hc;cases hc;exact⟨j,l[j],hq,e,hm⟩
 ·have hx:=hb.mem_iff.1 ha;obtain⟨q',hq',hx⟩:=List.mem_flatten.1 hx;obtain⟨q,hq,rfl⟩:=List.mem_map.1 hq';obtain⟨j,hj⟩:=List.getElem?_of_mem hq;obtain⟨a',_,e⟩:=List.mem_map.1 hx;cases e;exact⟨j,q,hj,rfl,by rw [B3j (h.2 j q hj)];exact B6q (h.2 j q hj)⟩
theorem Nf (h:Row l) (hr:W8 l r):r.length<=100∧∀ R∈r,Uk R:=by
 refine⟨by have:=hr.len;have:=h.1;omega,λR hR => ?_⟩;obtain⟨j,hj⟩:=List.getElem?_of_mem hR;have hlt:j<l.length:=by rw [<- hr.len];exact(List.getElem?_eq_some_iff.1 hj).1
 have hq:=List.getElem?_eq_getElem hlt;obtain⟨c,hc⟩:=hr.get j _ hq;rw [hj] at hc;cases hc;have:=h.pmacs hq;have h1:=W6 l[j].2.2.2.2.1;have h2:=W6 l[j].2.2.2.2.2;exact⟨by show(pmacs l[j]).length<=100;omega,by show(R9 _).length<=100;omega,by show(R9 _).length<=100;omega⟩
structure C2e (l:List B1) (f:C6) (p:B1) (fr:Frame) (dl:Hd) (q:B1):Prop where
 goes:dl.1=q.1
 other:q.1≠p.1
 dst:dl.2.2.1∈pmacs q
 src:fr.2.1∈pmacs p
 same:dl.2.2.2=fr.2
 vlan:fr.2.2.1=0
 way:Pe f p.2.1 dl.2.1 q.2.1∧dl.2.1.length<=100
 live:al f q.2.1=true
theorem A97 (h:Row l) (hr:W8 l r) (hb:b.Perm (T5 l)) (hp:l[i]? = some p) {f:C6} (hf:FV f) (hsw:0<=p.2.1∧p.2.1<f.1) {fr:Frame} (hfr:Km fr) (k:K1) :
  Tot (f12 r b lan4 lan6 f k p.1 fr hd6) (λx=>(x.1≠0->x.2.1.1=0∧x.2.1.2.1=[])∧(x.1=0->∃ (j:Nat) (q:B1),l[j]? = some q∧C2e l f p fr x.2.1 q)):=by
 obtain⟨c,e0,e1⟩:=Sx h hr hp;obtain⟨r1,r2⟩:=Nf h hr;have hbl:b.length<=100:=by have:=hb.length_eq;have:=Cf l;have:=h.1;omega
 have drop:∀ (v:Int) (u:K1),v≠0->Tot (some (v,(0,([]),(List.replicate 6 0),(List.replicate 6 0),0,0,([])),u)) (λx=>(x.1≠0->x.2.1.1=0∧x.2.1.2.1=[])∧(x.1=0->∃ (j:Nat) (q:B1),l[j]? = some q∧C2e l f p fr x.2.1 q)):=λv u hv=>Tot.some ⟨λ_=>⟨rfl,rfl⟩,λe=>absurd e hv⟩;refine Tot.bindOf e1 (M1 rfl (Tot.bindT (A5q (r2 _ (List.mem_of_getElem? e0)) lan4 lan6 hfr hd6) λx1 hx1=>Tot.ite (λg=>drop _ _ (by simpa using g)) λg => ?_));obtain⟨g1,g2,g3⟩:=hx1 (by simpa using g);refine Tot.jnR (λ_=>True) (λj hj=>Tot.bindT (Kz hfr.dst) λ_ _=>Tot.ite (λ_=>Tot.bindT (P':=λ_=>True) (by exact Tot.ite (λ_=>Tot.some trivial) λ_=>Tot.some trivial) λx11 _=>Tot.ite (λ_=>drop _ _ (by simp)) λ_=>hj _ trivial) λ_=>hj _ trivial) λu _ => ?_;refine Tot.bindT (Ws r1 r2 hbl hfr g3 hd6 p.1) λx3 hx3=>Tot.ite (λg=>drop _ _ (by simpa using g)) λg => ?_;obtain⟨k1,k2,k3⟩:=hx3 (by simpa using g);obtain⟨j,q,hq,eq,hm⟩:=A96 h hr hb k2;obtain⟨c',_,e2⟩:=Sx h hr hq;rw [<- eq];refine Tot.bindOf e2 (Tot.bindT (A93 hfr.src (A95 (h.2 j q hq) hm)) λhx _=>Tot.bindT (A8x hf hsw hx) λw hw => ?_);refine Tot.jnR (λu  => u=false->w.2=true) (λjj hj=>M1 rfl (hj _ λe=>by simpa using e)) λu7 h7=>Tot.ite (λ_=>drop _ _ (by simp)) λe7 => ?_;have hw2:=h7 e7;exact Tot.some ⟨λe=>absurd rfl e,λ_=>⟨j,q,hq,rfl,by omega,hm,g1,k3,g2,hw.2 hw2,(hw.1.1 hw2).als.2⟩⟩
end Go.Top
namespace Go.Top
open Go Go.Vc
variable {l:List Int} {k:Nat}
theorem Qw (hl:l.length<=9223372036854775807) (hk:k<=l.length):Tot (f14 20 l (k:Int)) (λx=>By x.1∧x.1.length<=20∧∃ k':Nat,x.2=k'∧k'<=l.length):=by
 refine draw hl (n:=21) rfl (by omega) (by omega) hk λv k1 hv hk1 => ?_;refine Tot.bindT (rng v (by omega) (λi (b)=>((v)-(i:Int),(b.1),b.2)) (λi b=>b.1<=l.length∧By b.2∧b.2.length=i) (λx:Int×List Int=>(∃ k':Nat,x.1=k'∧k'<=l.length)∧By x.2∧x.2.length<=20) (k1,[]) (by simp) ⟨hk1,By.nil,rfl⟩ (λi b hi hb => ?_) (λb hb => ?_)) λx hx=>Tot.some ⟨hx.2.1,hx.2.2,hx.1⟩
 ·refine T6 (decide_eq_true (by omega)) (draw hl (n:=256) rfl (by omega) (by omega) hb.1 λw k2 hw hk2=>Tot.chk (N9 (by rw [List.length_append,hb.2.2];simp  ;omega)) (L7 (k2,b.2++[IntKind.u8.wrap (w)]) ?_ ⟨hk2,hb.2.1.app (By.cons (u8r _) By.nil),by simp_all⟩));rw [V0 (by omega) (by omega),show(v)-(i)-1=(v)-((i+1:Nat):Int) from by omega]
 ·exact M1 (decide_eq_false (by simp)) (S9 ⟨⟨b.1,rfl,hb.1⟩,hb.2.1,by rw [hb.2.2];omega⟩)
def Pos (l:List Int) (x:Int):Prop:=∃ k:Nat,x=k∧k<=l.length
theorem Hy (hl:l.length<=9223372036854775807) (hk:k<=l.length):Tot (f57 l (k:Int)) (λx=>Pos l x.1):=by
 refine draw hl (n:=6) rfl (by omega) (by omega) hk λv k1 hv hk1=>Tot.ite (λ_=>Tot.some ⟨k1,rfl,hk1⟩) λ_=>draw hl (n:=10) rfl (by omega) (by omega) hk1 λw k2 hw hk2=>Tot.bindOf (Zo (by omega)) (Tot.some ⟨k2,rfl,hk2⟩)
theorem Bj (hl:l.length<=9223372036854775807) (hk:k<=l.length) {av:List Addr} (ha:av.length<=100) (a:Addr):Tot (Xx av a l (k:Int)) (λx=>Pos l x.1):=by
 refine Tot.ite (λ_=>Tot.some ⟨k,rfl,hk⟩) λg => ?_;have g:=by have:=beq_eq_false_iff_ne.1 g;omega
 exact draw hl (n:=7) rfl (by omega) (by omega) hk λv k1 hv hk1=>Tot.ite (λ_=>Tot.some ⟨k1,rfl,hk1⟩) λ_=>draw hl (n:=av.length) rfl (by omega) (by omega) hk1 λw k2 hw hk2=>Tot.bindIdx w rfl hw (Tot.some ⟨k2,rfl,hk2⟩)
def Y1 (m:MAC):Prop:=m.length=6∧By m
theorem A03 {y:ARP} (h1:Y1 y.2.1) (h2:Y1 y.2.2.2.1):Tot (f11 y) (λx=>By x.2∧x.2.length<=60):=by
 have t:=λa=>(Gw a).2.mono λ_ _=>trivial;refine Tot.bindT (P':=λ_=>True) ?_ λv _=>Tot.ite (λ_=>Tot.some ⟨By.nil,by simp⟩) λ_ => ?_
 ·refine Tot.ite (λ_ => ?_) (λ_=>Tot.ite (λ_ => ?_) (λ_=>Tot.some trivial)) <;>
   exact Tot.bindT (t _) λ_ _=>Tot.ite (λ_=>Tot.bindT (t _) λ_ _=>Tot.ite (λ_=>Tot.ite (λ_=>Tot.some trivial) λ_=>Tot.some trivial) λ_=>Tot.some trivial) λ_=>Tot.some trivial
 ·refine Tot.chk (N9 (by rw [List.length_append,h1.1];simp_all)) (Tot.bindT (R1 _) λx2 hx2=>Tot.chk (N9 (by simp  [h1.1];omega)) (Tot.chk (N9 (by simp  [h1.1,h2.1];omega)) (Tot.bindT (R1 _) λx3 hx3=>Tot.chk (N9 (by simp  [h1.1,h2.1];omega)) (Tot.some ⟨?_,?_⟩))))
  ·exact((((By.cons (by simp) (By.cons (by simp) (By.cons (by simp) (By.cons (by simp) (By.cons (by simp) (By.cons (by simp) (By.cons (by simp) (By.cons (u8r _) By.nil)))))))).app h1.2).app hx2.1).app h2.2).app hx3.1
  ·simp  [h1.1,h2.1];omega
theorem Ng {p:M0} (h:By p.2.2.2.2):Tot (f55 p) (λx=>By x.1∧x.1.length<=1600):=by
 refine Tot.bindT (Nb p).2 λv hv=>Tot.ite (λ_=>Tot.some ⟨By.nil,by simp⟩) λg => ?_;have hl:=hv (by simp_all);refine Tot.ite (λ_ => ?_) λ_ => ?_
 ·refine Tot.bindT (R1 _) λx3 h3=>Tot.chk (N9 (by simp  ;omega)) (Tot.bindT (R1 _) λx4 h4=>Tot.chk (N9 (by simp  ;omega)) (Tot.chk (N9 (by simp  ;omega)) (Tot.some ⟨?_,?_⟩)))
  ·exact((By.cons (by simp) (By.cons (by simp) (By.cons (by simp) (By.cons (by simp) (By.cons (u8r _) (By.cons (u8r _) (By.cons (u8r _) (By.cons (u8r _) By.nil)))))))).app h3.1 |>.app h4.1).app h
  ·simp  ;omega
 ·refine Tot.bindT (R1 _) λx3 h3=>Tot.chk (N9 (by simp  ;omega)) (Tot.bindT (R1 _) λx4 h4=>Tot.chk (N9 (by simp  ;omega)) ?_);have hb:By (([69,0,(IntKind.u8.wrap (H5 .i64 (w64 ((p.2.2.2.2.length)+20)) 8)),(IntKind.u8.wrap (w64 ((p.2.2.2.2.length)+20))),0,0,64,0,(IntKind.u8.wrap p.2.2.2.1),(IntKind.u8.wrap p.2.2.1),0,0])++x3++x4):=((By.cons (by simp) (By.cons (by simp) (By.cons (u8r _) (By.cons (u8r _) (By.cons (by simp) (By.cons (by simp) (By.cons (by simp) (By.cons (by simp) (By.cons (u8r _) (By.cons (u8r _) (By.cons (by simp) (By.cons (by simp) By.nil)))))))))))).app h3.1).app h4.1;have hn:12<=(([69,0,(IntKind.u8.wrap (H5 .i64 (w64 ((p.2.2.2.2.length)+20)) 8)),(IntKind.u8.wrap (w64 ((p.2.2.2.2.length)+20))),0,0,64,0,(IntKind.u8.wrap p.2.2.2.1),(IntKind.u8.wrap p.2.2.1),0,0])++x3++x4).length∧(([69,0,(IntKind.u8.wrap (H5 .i64 (w64 ((p.2.2.2.2.length)+20)) 8)),(IntKind.u8.wrap (w64 ((p.2.2.2.2.length)+20))),0,0,64,0,(IntKind.u8.wrap p.2.2.2.1),(IntKind.u8.wrap p.2.2.1),0,0])++x3++x4).length<=44:=by
   simp  ;omega
  generalize ([69,0,(IntKind.u8.wrap (H5 .i64 (w64 ((p.2.2.2.2.length)+20)) 8)),(IntKind.u8.wrap (w64 ((p.2.2.2.2.length)+20))),0,0,64,0,(IntKind.u8.wrap p.2.2.2.1),(IntKind.u8.wrap p.2.2.1),0,0])++x3++x4=D at *;refine Tot.bindT (Ky hb (by omega)).2 λs _=>Tot.bindIdx 10 rfl (by omega) (Tot.bindIdx 10 rfl (by omega) ?_);have e1:(List.set D (Int.toNat 10) (IntKind.u8.wrap (H5 .u16 s 8))).length=D.length:=List.length_set ..;have e2:(List.set (List.set D (Int.toNat 10) (IntKind.u8.wrap (H5 .u16 s 8))) (Int.toNat 11) (IntKind.u8.wrap s)).length=D.length:=by simp
  simp only [decide_eq_true e1];refine Tot.bindIdx 11 rfl (by omega) (Tot.bindIdx 11 rfl (by omega) (Tot.chk ?_ (Tot.some ⟨((hb.set _ (u8r _)).set _ (u8r _)).app h,by rw [List.length_append,e2];omega⟩)));rw [decide_eq_true e2.symm,Bool.true_and];exact N9 (by rw [List.length_append,e2];omega)
end Go.Top
