/- Part of the proof that 'TopFrames' holds of every input: no condition. -/
import Derived.Test.YtalojkjpjdcibaaGreatDoorXAL
import Derived.KernelRfl
namespace Go.Top
open Go Go.Vc
variable {n:Nat} {α:Type}
theorem A0 {β:Type} (x:α) (f:α->Option β):(some x).bind f=f x:=rfl
theorem B5 {b:Bool} {k:Option α} (h:b=true):Vc.chk b k=k:=by subst h;rfl
theorem C7 {S X:Type} {tb:S->Option (X⊕S)} (st:Nat->S) (n:Nat) {x:X} (hn:n<=1000000) (step:∀ i,i<n->tb (st i)=some (.inr (st (i+1)))) (fin:tb (st n)=some (.inl x)):loopF tb (st 0)=some x:=by
 have key:∀ k i,i+k=n->K5 tb (k+1) (st i)=some x:=by
  intro k;induction k with
  | zero =>
   intro i h;have:i=n:=by omega
   subst this;rw [K5,fin];rfl
  | succ k ih =>
   intro i h;rw [K5,step i (by omega)];exact ih (i+1) (by omega)
 exact Kp (show n+1<=1099511627776 by omega) (key n 0 (by omega))
theorem B2l (h:n<=4611686018427387904):w64 (n:Int)=n:=F8 (by omega) (by omega)
theorem K0 (h:n<=4611686018427387904):w64 ((n:Int)+1)=((n+1:Nat):Int):=by rw [F8 (by omega) (by omega)];omega
theorem A9 {α:Type} {xs:List α} {k:Nat} {x:α} (h:xs[k]? = some x):idx xs (k:Int)=some x:=A1q h
theorem I1 (h:n<=4294967296):decide (n<=LIM)=true:=decide_eq_true h
theorem P6 {l:List Int} (hl:l.length<=9223372036854775807) {n k:Nat} (hn:0<n) (hn2:n<=1000000) (hk:k<=l.length):∃ v k':Nat,f25 n l k=some ((v:Int),(k':Int))∧v<n∧k'<=l.length:=by
 unfold f25
 by_cases h:l.length<=k
 ·exact⟨0,k,by simp_all,hn,hk⟩
 ·have hlt:k<l.length:=by omega
  rw [if_neg (by simp [*])];rw [F8 (show -9223372036854775808<=(k:Int)+1 by omega) (by omega),F8 (show -9223372036854775808<=(k:Int)+1-1 by omega) (by omega),show(k:Int)+1-1=(k) by omega];rw [A9 (List.getElem?_eq_getElem hlt),A0];generalize l[k]=x;unfold f9;rw [B5 (show((n:Int) != 0)=true by simp;omega)];have hp:(0:Int)<n:=by omega
  have hlt2:=Int.tmod_lt_of_pos x hp
  by_cases hneg:Int.tmod x n<0
  ·rw [if_pos (decide_eq_true hneg),A0];have h3:=Int.lt_tmod_of_pos x hp;rw [F8 (by omega) (by omega)];exact⟨(Int.tmod x n+n).toNat,k+1,by rw [Int.toNat_of_nonneg (by omega)];rfl,by omega,by omega⟩
  ·rw [if_neg (by simp [*]),A0];exact⟨(Int.tmod x n).toNat,k+1,by rw [Int.toNat_of_nonneg (by omega)];rfl,by omega,by omega⟩
def N0 (k:Nat):List Int:=[2,0,0,0,0,(k:Int)]
def F9 (n:Nat):Addr:=(false,0,3221225984+((1+n:Nat):Int))
def N8 (n:Nat):Addr:=(true,2306139568115548160,((1+n:Nat):Int))
def F7:Addr:=(false,0,0)
def A1l (n o sw spi:Nat) (two:Bool) (vc:Nat):B1 :=
 (((3*n+o:Nat):Int),(sw:Int),([1,10,100,400]:List Int).getD spi 1,if two then [N0 (100+n),N0 (200+n)] else [N0 (100+n)],if vc=1 then F7 else F9 n,if vc=0 then F7 else N8 n)
def L3 (n:Nat) (p:B1):Prop:=∃ o sw spi:Nat,∃ two:Bool,∃ vc:Nat,o<3∧sw<4∧spi<4∧vc<3∧p=A1l n o sw spi two vc
theorem M6 {P:Nat->Bool} {m:Nat} (h:(List.range m).all P=true) {n:Nat} (hn:n<m):P n=true:=List.all_eq_true.1 h n (List.mem_range.2 hn)
theorem Zn {n:Nat} (h:n<256):f82 n=some (N0 n) :=
 eq_of_beq (M6 (P:=λn=>f82 (n)==some (N0 n)) (by kernel_rfl) h)
theorem Zo {n:Nat} (h:n<20):f56 n=some (F9 n) :=
 eq_of_beq (M6 (P:=λn=>f56 (n)==some (F9 n)) (by rfl) h)
theorem Ht {n:Nat} (h:n<20):f60 n=some (N8 n) :=
 eq_of_beq (M6 (P:=λn=>f60 (n)==some (N8 n)) (by rfl) h)
def V4 (a:Nat) (l:List B1):Prop:=∀ i p,l[i]? = some p->L3 (a+i+1) p
theorem V4.nil (a:Nat):V4 a []:=λi p h=>by simp at h
theorem V4.snoc {a:Nat} {l:List B1} {p:B1} (h:V4 a l) (hp:L3 (a+l.length+1) p):V4 a (l++[p]):=λi q hq=>by
 rw [List.getElem?_append] at hq;split at hq
 ·exact h i q hq
 ·have:i-l.length=0:=by
   cases hk:i-l.length<;>simp_all
  rw [this] at hq;simp at hq;subst hq;have:i=l.length:=by omega
  simp [*]
theorem V4.app {a:Nat} {l l':List B1} (h:V4 a l) (h':V4 (a+l.length) l'):V4 a (l++l'):=λi q hq=>by
 rw [List.getElem?_append] at hq;split at hq
 ·exact h i q hq
 ·have:=h' (i-l.length) q hq;rw [show a+l.length+(i-l.length)+1=a+i+1 from by omega] at this;omega
theorem P9 {s:Type} (rest:s->Option α) (body:(s->Option α)->Option α):jn rest body=body rest:=rfl
theorem Zp {l:List Int} (hl:l.length<=9223372036854775807) {c k n:Nat} (hk:k<=l.length) (hn:n<=14) (hc:c<=1000) {acc:List B1} (hacc:acc.length<=1000) :
  ∃ k' p,k'<=l.length∧L3 (n+1) p∧Dr l (((c+1:Nat):Int),((k:Nat):Int),((n:Nat):Int),acc)=some (.inr ((c:Int),((k':Nat):Int),((n+1:Nat):Int),acc++[p])):=by
 obtain⟨o,k1,e1,b1,c1⟩:=P6 hl (n:=3) (by simp) (by simp) hk;obtain⟨sw,k2,e2,b2,c2⟩:=P6 hl (n:=4) (by simp) (by simp) c1;obtain⟨sp,k3,e3,b3,c3⟩:=P6 hl (n:=4) (by simp) (by simp) c2;obtain⟨tw,k4,e4,b4,c4⟩:=P6 hl (n:=4) (by simp) (by simp) c3;obtain⟨vc,k5,e5,b5,c5⟩:=P6 hl (n:=4) (by simp) (by simp) c4;have e1:f25 3 l (k)=some ((o:Int),(k1:Int)):=e1;have e2:f25 4 l (k1)=some ((sw:Int),(k2:Int)):=e2;have e3:f25 4 l (k2)=some ((sp:Int),(k3:Int)):=e3;have e4:f25 4 l (k3)=some ((tw:Int),(k4:Int)):=e4;have e5:f25 4 l (k4)=some ((vc:Int),(k5:Int)):=e5;have hs:idx ([1,10,100,400]) (sp)=some (([1,10,100,400]:List Int).getD sp 1):=by
  apply A9
  match sp,b3 with
  | 0,_=>rfl
  | 1,_=>rfl
  | 2,_=>rfl
  | 3,_=>rfl
 have q1:w64 ((n:Int)+1)=((n+1:Nat):Int):=K0 (by omega);have q2:w64 (3*((n+1:Nat):Int))=((3*(n+1):Nat):Int):=by rw [F8 (by omega) (by omega)];omega
 have q3:w64 (((3*(n+1):Nat):Int)+(o:Int))=((3*(n+1)+o:Nat):Int):=by rw [F8 (by omega) (by omega)];omega
 have q4:w64 (100+((n+1:Nat):Int))=((100+(n+1):Nat):Int):=by rw [F8 (by omega) (by omega)];omega
 have q5:w64 (200+((n+1:Nat):Int))=((200+(n+1):Nat):Int):=by rw [F8 (by omega) (by omega)];omega
 have q6:w64 (((c+1:Nat):Int)-1)=(c:Int):=by rw [F8 (by omega) (by omega)];omega
 have m1:=Zn (n:=100+(n+1)) (by omega);have m2:=Zn (n:=200+(n+1)) (by omega);have a4:=Zo (n:=n+1) (by omega);have a6:=Ht (n:=n+1) (by omega);have hlen:∀ p:B1,decide ((acc++[p]).length<=LIM)=true:=λp=>I1 (by simp;omega);have n1:∀ a b:Nat,(((a:Int)==(b:Int)):Bool)=decide (a=b):=λa b=>by
  by_cases h:a=b
  ·subst h;simp
  ·simp [h];omega
 have t3:(((tw:Int)==3):Bool)=decide (tw=3):=n1 tw 3;have v0:(((vc:Int)==0):Bool)=decide (vc=0):=n1 vc 0;have v1:(((vc:Int)==1):Bool)=decide (vc=1):=n1 vc 1;have hc0:decide (0<((c+1:Nat):Int))=true:=decide_eq_true (by omega);have h2:decide (((([N0 (100+(n+1))]:List MAC)++([N0 (200+(n+1))]:List MAC))).length<=LIM)=true:=I1 (by simp);have mk:∀ (two:Bool) (v:Nat),v<3->Dr l (((c+1:Nat):Int),((k:Nat):Int),((n:Nat):Int),acc)=some (.inr ((c:Int),((k5:Nat):Int),((n+1:Nat):Int),acc++[A1l (n+1) o sw sp two v])) ->
   ∃ k' p,k'<=l.length∧L3 (n+1) p∧Dr l (((c+1:Nat):Int),((k:Nat):Int),((n:Nat):Int),acc)=some (.inr ((c:Int),((k':Nat):Int),((n+1:Nat):Int),acc++[p])):=λtwo v hv h=>⟨k5,_,c5,⟨o,sw,sp,two,v,b1,b2,b3,hv,rfl⟩,h⟩
 by_cases h3:tw=3
 ·have t3:=t3.trans (decide_eq_true h3)
  by_cases h0:vc=0
  ·have v0:=v0.trans (decide_eq_true h0);refine mk true 0 (by decide) ?_;simp only [Dr,hc0,e1,A0,e2,e3,hs,q1,q2,q3,q4,q5,q6,m1,m2,P9,e4,e5,t3,v0,a4,a6,Bool.false_eq_true,if_true,if_false,B5 (hlen _),B5 h2];rfl
  ·have v0:=v0.trans (decide_eq_false h0)
   by_cases h1:vc=1
   ·have v1:=v1.trans (decide_eq_true h1);refine mk true 1 (by decide) ?_;simp only [Dr,hc0,e1,A0,e2,e3,hs,q1,q2,q3,q4,q5,q6,m1,m2,P9,e4,e5,t3,v0,v1,a4,a6,Bool.false_eq_true,if_true,if_false,B5 (hlen _),B5 h2];rfl
   ·have v1:=v1.trans (decide_eq_false h1);refine mk true 2 (by decide) ?_;simp only [Dr,hc0,e1,A0,e2,e3,hs,q1,q2,q3,q4,q5,q6,m1,m2,P9,e4,e5,t3,v0,v1,a4,a6,Bool.false_eq_true,if_true,if_false,B5 (hlen _),B5 h2];rfl
 ·have t3:=t3.trans (decide_eq_false h3)
  by_cases h0:vc=0
  ·have v0:=v0.trans (decide_eq_true h0);refine mk false 0 (by decide) ?_;simp only [Dr,hc0,e1,A0,e2,e3,hs,q1,q2,q3,q4,q5,q6,m1,m2,P9,e4,e5,t3,v0,a4,a6,Bool.false_eq_true,if_true,if_false,B5 (hlen _),B5 h2];rfl
  ·have v0:=v0.trans (decide_eq_false h0)
   by_cases h1:vc=1
   ·have v1:=v1.trans (decide_eq_true h1);refine mk false 1 (by decide) ?_;simp only [Dr,hc0,e1,A0,e2,e3,hs,q1,q2,q3,q4,q5,q6,m1,m2,P9,e4,e5,t3,v0,v1,a4,a6,Bool.false_eq_true,if_true,if_false,B5 (hlen _),B5 h2];rfl
   ·have v1:=v1.trans (decide_eq_false h1);refine mk false 2 (by decide) ?_;simp only [Dr,hc0,e1,A0,e2,e3,hs,q1,q2,q3,q4,q5,q6,m1,m2,P9,e4,e5,t3,v0,v1,a4,a6,Bool.false_eq_true,if_true,if_false,B5 (hlen _),B5 h2];rfl
end Go.Top
namespace Go.Top
open Go Go.Vc
theorem M5 {S X:Type} {tb:S->Option (X⊕S)} {n:Nat} {s:S} {x:X} (hn:n<=1000000) (h:K5 tb n s=some x):loopF tb s=some x:=Kp (by omega) h
theorem Y5 {S X:Type} {tb:S->Option (X⊕S)} {Inv:Nat->S->Prop} {Q:X->Prop} (step:∀ i s,Inv (i+1) s->∃ s',tb s=some (.inr s')∧Inv i s') (fin:∀ s,Inv 0 s->∃ x,tb s=some (.inl x)∧Q x)
  {n:Nat} (hn:n<=10000) {s:S} (h0:Inv n s):∃ x,loopF tb s=some x∧Q x:=by
 have key:∀ n s,Inv n s->∃ x,K5 tb (n+1) s=some x∧Q x:=by
  intro n;induction n with
  | zero=>intro s h;obtain⟨x,h1,h2⟩:=fin s h;exact⟨x,by rw [K5,h1];rfl,h2⟩
  | succ n ih =>
   intro s h;obtain⟨s',h1,h2⟩:=step n s h;obtain⟨x,h3,h4⟩:=ih s' h2;exact⟨x,by rw [K5,h1];exact h3,h4⟩
 obtain⟨x,h1,h2⟩:=key n s h0;exact⟨x,M5 (by omega) h1,h2⟩
def Pc:List (List UInt8):=[[],[65,83,45,65],[65,83,45,66]]
def B7 (m:A2):List B1:=m.2.2.2.2.2
structure A3k (nm:Int×List UInt8) (m:A2):Prop where
 asn:m.1=nm.1
 name:m.2.1=nm.2
 set:m.2.2.1∈Pc
 m4:∃ x:Nat,x<20∧m.2.2.2.1=x
 m6:∃ x:Nat,x<20∧m.2.2.2.2.1=x
 few:1<=(B7 m).length∧(B7 m).length<=2
theorem A88 {l:List Int} (hl:l.length<=9223372036854775807) {k n:Nat} (hk:k<=l.length) (hn:n<=12) (asn:Int) (name:List UInt8) :
  ∃ k' m,k'<=l.length∧A3k (asn,name) m∧V4 n (B7 m)∧f39 asn name l k n=some (((k':Nat):Int),((n+(B7 m).length:Nat):Int),m):=by
 obtain⟨s,k1,e1,b1,c1⟩:=P6 hl (n:=3) (by simp) (by simp) hk;obtain⟨x,k2,e2,b2,c2⟩:=P6 hl (n:=20) (by simp) (by simp) c1;obtain⟨y,k3,e3,b3,c3⟩:=P6 hl (n:=20) (by simp) (by simp) c2;obtain⟨v,k4,e4,b4,c4⟩:=P6 hl (n:=2) (by simp) (by simp) c3;have e1:f25 3 l (k)=some ((s:Int),(k1:Int)):=e1;have e2:f25 20 l (k1)=some ((x:Int),(k2:Int)):=e2;have e3:f25 20 l (k2)=some ((y:Int),(k3:Int)):=e3;have e4:f25 2 l (k3)=some ((v:Int),(k4:Int)):=e4;have hs:∃ q,idx Pc (s)=some q∧q∈Pc:=by
  match s,b1 with
  | 0,_=>exact⟨_,rfl,by decide⟩
  | 1,_=>exact⟨_,rfl,by decide⟩
  | 2,_=>exact⟨_,rfl,by decide⟩
 obtain⟨q,hq,hq2⟩:=hs;have hq:idx ([([]),([65,83,45,65]),([65,83,45,66])]) (s)=some q:=hq;have q1:w64 (1+(v))=((v+1:Nat)):=by rw [F8 (by omega) (by omega)];omega
 obtain⟨r,h1,k5,ps,c5,hps,hlen,rfl⟩:=Y5 (tb:=Dr l) (Q:=λr=>∃ (k5:Nat) (ps:List B1),k5<=l.length∧V4 n ps∧ps.length=v+1∧r=((k5:Int),((n+ps.length:Nat):Int),ps))
  (Inv:=λi s=>∃ (k5:Nat) (ps:List B1),k5<=l.length∧V4 n ps∧ps.length+i=v+1∧s=((i:Int),(k5:Int),((n+ps.length:Nat):Int),ps))
  (λi s ⟨k5,ps,g1,g2,g3,g4⟩=>by
   subst g4;obtain⟨k6,p,h1,h2,h3⟩:=Zp hl g1 (n:=n+ps.length) (c:=i) (by omega) (by omega) (acc:=ps) (by omega);exact⟨_,h3,k6,ps++[p],h1,g2.snoc h2,by simp;omega,by simp [Nat.add_assoc]⟩)
  (λs ⟨k5,ps,g1,g2,g3,g4⟩=>by
   subst g4;exact⟨_,by rfl,k5,ps,g1,g2,by omega,rfl⟩)
  (n:=v+1) (by omega) (s:=(((v+1:Nat)),(k4),(n),[])) ⟨k4,[],c4,V4.nil n,by simp,rfl⟩
 refine⟨k5,(asn,name,q,(x),(y),ps),c5,⟨rfl,rfl,hq2,⟨x,b2,rfl⟩,⟨y,b3,rfl⟩,by show 1<=ps.length;omega,by show ps.length<=2;omega⟩,hps,?_⟩;simp only [f39,e1,A0,hq,e2,e3,e4,q1,h1];rfl
def nmS (i:Nat):Int×List UInt8:=(65000,([[114,115,45,49],[114,115,45,50]]:List (List UInt8)).getD i [])
def nmM (i:Nat):Int×List UInt8:=(((1+7*i:Nat):Int),([[97],[98,45,50],[67,58,51],[100,101,108,116,97],[101]]:List (List UInt8)).getD i [])
def Om (nm:Nat->Int×List UInt8) (ms:List A2):Prop:=∀ i m,ms[i]? = some m->A3k (nm i) m
theorem Om.snoc {nm:Nat->Int×List UInt8} {ms:List A2} {m:A2} (h:Om nm ms) (hm:A3k (nm ms.length) m):Om nm (ms++[m]):=λi q hq=>by
 rw [List.getElem?_append] at hq;split at hq
 ·exact h i q hq
 ·cases hk:i-ms.length with
  | zero =>
   rw [hk] at hq;simp at hq;subst hq;have:i=ms.length:=by omega
   simp_all
  | succ k=>simp_all
def D9 (ms:List A2):List B1:=(ms.map B7).flatten
theorem Y6 (ms:List A2) (m:A2):D9 (ms++[m])=D9 ms++B7 m:=by simp [D9]
theorem Wc {nm:Nat->Int×List UInt8}:∀ {ms:List A2},(∀ m∈ms,(B7 m).length<=2)->(D9 ms).length<=2*ms.length
 | [],_=>by simp [D9]
 | m :: ms,h=>by
  have:=Wc (nm:=nm) (ms:=ms) λq hq=>h q (List.mem_cons_of_mem _ hq);have h1:=h m (List.mem_cons_self ..);simp  [D9,List.length_cons] at this ⊢;omega
theorem Om.few {nm:Nat->Int×List UInt8} {ms:List A2} (h:Om nm ms):(D9 ms).length<=2*ms.length:=Wc (nm:=nm) λm hm=>by
 obtain⟨i,hi⟩:=List.getElem?_of_mem hm;exact(h i m hi).few.2
structure J4 (d:A6):Prop where
 lan4:d.1=((false,0,3221225984),24)
 lan6:d.2.1=((true,2306139568115548160,0),64)
 srv:Om nmS d.2.2.1
 mem:Om nmM d.2.2.2
 ls:d.2.2.1.length<=2
 lm:2<=d.2.2.2.length∧d.2.2.2.length<=5
 ports:V4 0 (D9 (d.2.2.1++d.2.2.2))
theorem B9h {l:List Int} (hl:l.length<=9223372036854775807):∃ (k:Nat) (d:A6),k<=l.length∧J4 d∧f8 l 0=some ((k:Int),d):=by
 obtain⟨s,k1,e1,b1,c1⟩:=P6 hl (n:=3) (by simp) (by simp) (k:=0) (by omega);have e1:f25 3 l 0=some ((s:Int),(k1:Int)):=e1;obtain⟨r,h1,k2,ms,c2,g1,g2,g3,rfl⟩:=Y5 (tb:=B3u l ((s),(k1)))
  (Q:=λr=>∃ (k5:Nat) (ms:List A2),k5<=l.length∧Om nmS ms∧V4 0 (D9 ms)∧ms.length=s∧r=((k5:Int),(((D9 ms).length):Int),ms))
  (Inv:=λi t=>∃ (k5:Nat) (ms:List A2),k5<=l.length∧Om nmS ms∧V4 0 (D9 ms)∧ms.length+i=s∧t=((ms.length:Int),(k5:Int),(((D9 ms).length):Int),ms))
  (λi t ⟨k5,ms,g1,g2,g3,g4,g5⟩=>by
   subst g5;have hfew:=g2.few;obtain⟨k6,m,q1,q2,q3,q4⟩:=A88 hl g1 (n:=(D9 ms).length) (by omega) (nmS ms.length).1 (nmS ms.length).2;have hi:idx ([([114,115,45,49]),([114,115,45,50])]) (ms.length)=some (nmS ms.length).2:=by
    have:ms.length<2:=by omega
    match hm:ms.length,this with
    | 0,_=>rfl
    | 1,_=>rfl
   have q4:f39 65000 (nmS ms.length).2 l (k5) (((D9 ms).length))=_:=q4;refine⟨_,?_,k6,ms++[m],q1,g2.snoc q2,by rw [Y6];exact g3.app (by rw [Nat.zero_add];exact q3),by simp;omega,rfl⟩;have hlt:decide ((ms.length:Int)<(s:Int))=true:=decide_eq_true (by omega);simp only [B3u,hlt,if_true,hi,A0,q4];rw [B5 (I1 (show(ms++[m]).length<=4294967296 by simp;omega)),K0 (show ms.length<=4611686018427387904 by omega),Y6,List.length_append,List.length_append];rfl)
  (λt ⟨k5,ms,g1,g2,g3,g4,g5⟩=>by
   subst g5;have hlt:decide ((ms.length:Int)<(s:Int))=false:=decide_eq_false (by omega);exact⟨_,by simp only [B3u,hlt,Bool.false_eq_true,if_false],k5,ms,g1,g2,g3,by omega,rfl⟩)
  (n:=s) (by omega) (s:=(0,(k1:Int),0,[])) ⟨k1,[],c1,(λi m h=>by simp at h),(λi p h=>by simp [D9] at h),by simp,rfl⟩
 obtain⟨s2,k3,e2,b2,c3⟩:=P6 hl (n:=4) (by decide) (by decide) c2;have e2:f25 4 l (k2:Int)=some ((s2:Int),(k3:Int)):=e2;have q2:w64 (2+(s2:Int))=((2+s2:Nat):Int):=by rw [F8 (by omega) (by omega)];omega
 have hfs:=g1.few;obtain⟨r,h2,k4,mm,c4,i1,i2,i3,rfl⟩:=Y5 (tb:=B3v l ((s2:Int),(k3:Int)))
  (Q:=λr=>∃ (k5:Nat) (mm:List A2),k5<=l.length∧Om nmM mm∧V4 0 (D9 (ms++mm))∧mm.length=2+s2∧r=((k5:Int),mm))
  (Inv:=λi t=>∃ (k5:Nat) (mm:List A2),k5<=l.length∧Om nmM mm∧V4 0 (D9 (ms++mm))∧mm.length+i=2+s2∧t=((mm.length:Int),(k5:Int),(((D9 (ms++mm)).length:Nat):Int),mm))
  (λi t ⟨k5,mm,g1,g2,g3,g4,g5⟩=>by
   subst g5;have hfew:=g2.few;have hsum:(D9 (ms++mm)).length=(D9 ms).length+(D9 mm).length:=by simp [D9]
   obtain⟨k6,m,q1,q2',q3,q4⟩:=A88 hl g1 (n:=(D9 (ms++mm)).length) (by omega) (nmM mm.length).1 (nmM mm.length).2;have hi:idx ([([97]:List UInt8),([98,45,50]:List UInt8),([67,58,51]:List UInt8),([100,101,108,116,97]:List UInt8),([101]:List UInt8)]:List (List UInt8)) (mm.length:Int)=some (nmM mm.length).2:=by
    apply A9;have:mm.length<5:=by omega
    match hm:mm.length,this with
    | 0,_=>rfl
    | 1,_=>rfl
    | 2,_=>rfl
    | 3,_=>rfl
    | 4,_=>rfl
   have ha:w64 (1+w64 (7*(mm.length:Int)))=(nmM mm.length).1:=by
    rw [F8 (n:=7*(mm.length:Int)) (by omega) (by omega),F8 (by omega) (by omega)];show _=((1+7*mm.length:Nat):Int);omega
   refine⟨_,?_,k6,mm++[m],q1,g2.snoc q2',by rw [<- List.append_assoc,Y6];exact g3.app (by rw [Nat.zero_add];exact q3),by simp;omega,rfl⟩;have hlt:decide ((mm.length:Int)<((2+s2:Nat):Int))=true:=decide_eq_true (by omega);simp only [B3v,q2,hlt,if_true,hi,A0,ha,q4];rw [B5 (I1 (show(mm++[m]).length<=4294967296 by simp;omega)),K0 (show mm.length<=4611686018427387904 by omega),<- List.append_assoc,Y6,List.length_append,List.length_append];rfl)
  (λt ⟨k5,mm,g1,g2,g3,g4,g5⟩=>by
   subst g5;have hlt:decide ((mm.length:Int)<((2+s2:Nat):Int))=false:=decide_eq_false (by omega);exact⟨_,by simp only [B3v,q2,hlt,Bool.false_eq_true,if_false],k5,mm,g1,g2,g3,by omega,rfl⟩)
  (n:=2+s2) (by omega) (s:=(0,(k3:Int),(((D9 ms).length:Nat):Int),[])) ⟨k3,[],c3,(λi m h=>by simp at h),by rw [List.append_nil];exact g2,by simp,by rw [List.append_nil];rfl⟩
 refine⟨k4,(((false,0,3221225984),24),((true,2306139568115548160,0),64),ms,mm),c4,⟨rfl,rfl,g1,i1,by show ms.length<=2;omega,by show 2<=mm.length∧mm.length<=5;omega,i2⟩,?_⟩;simp only [f8,f37,f38,A0,e1,h1,e2,h2]
end Go.Top
namespace Go.Top
open Go Go.Vc
variable {a b c:Int}
def A3l (m:Nat) (P:Nat->B1->Bool):Bool:=(List.range m).all λa=>(List.range 3).all λo=>(List.range 4).all λsw=>(List.range 4).all λsp=>[true,false].all λtwo=>(List.range 3).all λvc=>P (a+1) (A1l (a+1) o sw sp two vc)
theorem Mo {m:Nat} {P:Nat->B1->Bool} (h:A3l m P=true) {n:Nat} {p:B1} (hp:L3 n p) (h1:1<=n) (h2:n<=m):P n p=true:=by
 obtain⟨o,sw,sp,two,vc,b1,b2,b3,b4,rfl⟩:=hp;have a1:=List.all_eq_true.1 h (n-1) (List.mem_range.2 (by omega));have a2:=List.all_eq_true.1 a1 o (List.mem_range.2 b1);have a3:=List.all_eq_true.1 a2 sw (List.mem_range.2 b2);have a4:=List.all_eq_true.1 a3 sp (List.mem_range.2 b3);have a5:=List.all_eq_true.1 a4 two (by simp);simp_all
theorem B2m:Ah a b c=some (decide (b<=a)&&decide (a<=c)):=by
 unfold Ah
 by_cases h:b<=a
 ·simp_all
 simp [*]
theorem Sk (h1:b<=a) (h2:a<=c):Ah a b c=some true:=by rw [B2m,decide_eq_true h1,decide_eq_true h2];rfl
theorem B2n {n:Nat} {p:B1} (hp:L3 n p) (h1:1<=n) (h2:n<=14):B0q p=some true :=
 eq_of_beq (Mo (P:=λ_ p=>B0q p==some true) (by kernel_rfl) hp h1 h2)
end Go.Top
namespace Go.Top
open Go Go.Vc
variable {d:A6} {p:B1} {i:Nat} {α:Type} {l:List α} {a:α}
theorem I8 {α X:Type} {l:List α} (hl:l.length<=100000) {tb:Int->Option (X⊕Int)} {x:X} (step:∀ (i:Nat) a,l[i]? = some a->tb (i:Int)=some (.inr (((i+1:Nat):Int)))) (fin:tb (l.length:Int)=some (.inl x)):loopF tb 0=some x :=
 C7 (λi=>(i:Int)) l.length (by omega) (λi hi=>step i _ (List.getElem?_eq_getElem hi)) fin
theorem D2 (h:l[i]? = some a):decide ((i:Int)<(l.length:Int))=true:=decide_eq_true (by have:=(List.getElem?_eq_some_iff.1 h).1;omega)
theorem Dg (l:List α):decide ((l.length:Int)<(l.length:Int))=false:=decide_eq_false (by omega)
theorem E8 (h:l[i]? = some a) (hl:l.length<=100000):w64 ((i:Int)+1)=((i+1:Nat):Int):=K0 (by have:=(List.getElem?_eq_some_iff.1 h).1;omega)
theorem B2o {ps:List B1} (hl:ps.length<=100) (h:∀ p∈ps,B0q p=some true):f166 ps=some false:=by
 have h1:B3z ps=some (-1):=by
  unfold B3z;rw [I8 (l:=ps) (x:=.inl ()) (by omega) (λi a ha=>by
   simp only [A1a,D2 ha,if_true,A9 ha,A0,B7l,h a (List.mem_of_getElem? ha),Bool.not_true,Bool.false_eq_true,if_false,E8 ha (by omega)]) (by
   simp  [A1a,if_false])]
  rfl
 unfold f166;simp [*]
def Ad:List (List UInt8):=[[114,115,45,49],[114,115,45,50],[97],[98,45,50],[67,58,51],[100,101,108,116,97],[101]]
theorem Sl {s:List UInt8} (h:s∈Ad++[[65,83,45,65],[65,83,45,66]]):f165 s=some true:=by
 have:(Ad++[[65,83,45,65],[65,83,45,66]]).all (λs=>f165 s==some true)=true:=by kernel_rfl
 exact eq_of_beq (List.all_eq_true.1 this s h)
structure B1n (m:A2):Prop where
 asn:1<=m.1∧m.1<=65000
 name:m.2.1∈Ad
 set:m.2.2.1∈Pc
 m4:∃ x:Nat,x<20∧m.2.2.2.1=x
 m6:∃ x:Nat,x<20∧m.2.2.2.2.1=x
 few:1<=(B7 m).length∧(B7 m).length<=2
 pts:∀ p∈B7 m,∃ n,1<=n∧n<=14∧L3 n p
def A8 (d:A6):List A2:=d.2.2.1++d.2.2.2
theorem J4.few {d:A6} (h:J4 d):(D9 (A8 d)).length<=14∧2<=(A8 d).length∧(A8 d).length<=7:=by
 have h1:=h.srv.few;have h2:=h.mem.few;have h3:=h.ls;have h4:=h.lm;have:(D9 (A8 d)).length=(D9 d.2.2.1).length+(D9 d.2.2.2).length:=by simp [D9,A8]
 have h5:(A8 d).length=d.2.2.1.length+d.2.2.2.length:=by simp [A8]
 omega
theorem A89 {ms:List A2} {m:A2} (hm:m∈ms) (hp:p∈B7 m):p∈D9 ms:=List.mem_flatten.2 ⟨_,List.mem_map.2 ⟨m,hm,rfl⟩,hp⟩
theorem J4.isPort (h:J4 d) (hi:(D9 (A8 d))[i]? = some p):L3 (i+1) p∧i+1<=14:=by
 have:=h.ports i p hi;rw [Nat.zero_add] at this;have h2:=(List.getElem?_eq_some_iff.1 hi).1;have h3:=h.few.1;exact⟨this,by omega⟩
theorem J4.own (h:J4 d):∀ m∈A8 d,B1n m:=λm hm=>by
 have key:∀ nm ,A3k nm m->(1<=nm.1∧nm.1<=65000)->nm.2∈Ad->B1n m:=λnm g g1 g2=>⟨by rw [g.asn];omega,by rw [g.name];omega,g.set,g.m4,g.m6,g.few,λp hp=>by
  obtain⟨i,hi⟩:=List.getElem?_of_mem (A89 hm hp);obtain⟨q1,q2⟩:=h.isPort hi;exact⟨i+1,by omega,q2,q1⟩⟩
 rcases List.mem_append.1 hm with hm | hm
 ·obtain⟨i,hi⟩:=List.getElem?_of_mem hm;have hlt:=(List.getElem?_eq_some_iff.1 hi).1;have hls:=h.ls;refine key _ (h.srv i m hi) ⟨by show(1)<=65000;decide,by show(65000)<=65000;decide⟩ ?_;have:i<2:=by omega
  match i,this with
  | 0,_=>decide
  | 1,_=>decide
 ·obtain⟨i,hi⟩:=List.getElem?_of_mem hm;have hlt:=(List.getElem?_eq_some_iff.1 hi).1;have hls:=h.lm;refine key _ (h.mem i m hi) ⟨by show(1)<=((1+7*i):Int);omega,by show((1+7*i):Int)<=65000;omega⟩ ?_;have:i<5:=by omega
  match i,this with
  | 0,_=>decide
  | 1,_=>decide
  | 2,_=>decide
  | 3,_=>decide
  | 4,_=>decide
theorem Cd (h1:d.2.2.1.length<=1000) (h2:d.2.2.2.length<=1000):Ub d=some (A8 d):=by
 have hc:∀ n:Nat,n<=2000->w64 (n)=n:=λn hn=>B2l (by omega);have s1:loopF (Je [d.2.2.1,d.2.2.2]) (0,0)=some (((d.2.2.1.length+d.2.2.2.length:Nat):Int)):=by
  refine C7 (λi=>((((if i=0 then 0 else if i=1 then d.2.2.1.length else d.2.2.1.length+d.2.2.2.length)):Int),(i:Int))) 2 (by simp) (λi hi => ?_) ?_
  ·match i,hi with
   | 0,_ =>
    have e1:w64 (0+(d.2.2.1.length))=(d.2.2.1.length):=by rw [Int.zero_add];exact hc _ (by omega)
    have e2:decide ((d.2.2.1.length:Int)<0)=false:=decide_eq_false (by omega);show Je [d.2.2.1,d.2.2.2] (0,0)=some (.inr ((d.2.2.1.length),1));simp only [Je,show decide ((0)<([d.2.2.1,d.2.2.2].length:Int))=true from rfl,if_true,show idx [d.2.2.1,d.2.2.2] 0=some d.2.2.1 from rfl,A0,e1,e2,Bool.false_eq_true,if_false,show w64 (0+1)=1 from rfl]
   | 1,_ =>
    have e1:w64 ((d.2.2.1.length)+(d.2.2.2.length))=((d.2.2.1.length+d.2.2.2.length:Nat)):=by rw [F8 (by omega) (by omega)];omega
    have e2:decide (((d.2.2.1.length+d.2.2.2.length:Nat):Int)<0)=false:=decide_eq_false (by omega);show Je [d.2.2.1,d.2.2.2] ((d.2.2.1.length),1)=some (.inr (((d.2.2.1.length+d.2.2.2.length:Nat)),2));simp only [Je,show decide ((1)<([d.2.2.1,d.2.2.2].length:Int))=true from rfl,if_true,show idx [d.2.2.1,d.2.2.2] 1=some d.2.2.2 from rfl,A0,e1,e2,Bool.false_eq_true,if_false,show w64 (1+1)=2 from rfl]
  ·rfl
 have s2:f220 (((d.2.2.1.length+d.2.2.2.length:Nat)))=some []:=by
  have hn2:d.2.2.1.length+d.2.2.2.length<=2000:=by omega
  generalize d.2.2.1.length+d.2.2.2.length=n at hn2 ⊢;have e2:decide ((n:Int)<0)=false:=decide_eq_false (by omega);have e1:w64 ((n)-0)=(n):=by simp_all
  simp only [f220,e2,Bool.false_eq_true,if_false,e1]
  by_cases h0:0<(n:Int)
  ·rw [if_pos (decide_eq_true h0),decide_eq_true h0];have hf:V2 (n)=true:=by
    unfold V2;rw [decide_eq_true (show(0)<=(n:Int) by omega),decide_eq_true (by show(n)<=((4294967296):Int);omega)];rfl
   rw [hf];rfl
  simp_all
 have s3:loopF (Jf [d.2.2.1,d.2.2.2]) (0,[])=some (A8 d):=by
  refine C7 (λi=>((i:Int),if i=0 then [] else if i=1 then d.2.2.1 else A8 d)) 2 (by simp) (λi hi => ?_) rfl
  match i,hi with
  | 0,_ =>
   show Jf [d.2.2.1,d.2.2.2] (0,[])=some (.inr (1,d.2.2.1));simp only [Jf,show decide ((0:Int)<([d.2.2.1,d.2.2.2].length:Int))=true from rfl,if_true,show idx [d.2.2.1,d.2.2.2] 0=some d.2.2.1 from rfl,A0,List.nil_append];rw [B5 (I1 (by omega))];rfl
  | 1,_ =>
   show Jf [d.2.2.1,d.2.2.2] (1,d.2.2.1)=some (.inr (2,A8 d));simp only [Jf,show decide ((1:Int)<([d.2.2.1,d.2.2.2].length:Int))=true from rfl,if_true,show idx [d.2.2.1,d.2.2.2] 1=some d.2.2.2 from rfl,A0];rw [B5 (I1 (by simp;omega))];rfl
 simp only [Ub,B7b,s1,s2,s3,A0]
theorem Sm (h1:d.2.2.1.length<=1000) (h2:d.2.2.2.length<=1000) (h3:(D9 (A8 d)).length<=100000):f129 d=some (D9 (A8 d)):=by
 have s:loopF (Oa (A8 d)) (0,[])=some (D9 (A8 d)):=by
  have hl:(A8 d).length<=2000:=by simp [A8];omega
  have hpre:∀ i,(D9 ((A8 d).take i)).length<=100000:=λi=>by
   have:D9 (A8 d)=D9 ((A8 d).take i)++D9 ((A8 d).drop i):=by
    have:=List.take_append_drop i (A8 d)
    conv=>lhs;rw [<- this]
    unfold D9;rw [List.map_append,List.flatten_append]
   rw [this,List.length_append] at h3;omega
  have:=C7 (tb:=Oa (A8 d)) (λi=>((i),D9 ((A8 d).take i))) (A8 d).length (x:=D9 (A8 d)) (by omega) (λi hi=>by
   have ha:=List.getElem?_eq_getElem hi;have ht:(A8 d).take (i+1)=(A8 d).take i++[(A8 d)[i]]:=by simp
   have hn:D9 ((A8 d).take (i+1))=D9 ((A8 d).take i)++B7 (A8 d)[i]:=by rw [ht,Y6]
   simp only [Oa,D2 ha,A9 ha,E8 ha (by omega),hn];have:=hpre (i+1);rw [hn] at this;exact B5 (I1 (show(D9 ((A8 d).take i)++B7 (A8 d)[i]).length<=4294967296 by omega))) (by
   simp  [Oa,List.take_length])
  exact this
 simp  [f129,Cd h1 h2,s]
end Go.Top
namespace Go.Top
open Go Go.Vc
variable {p:B1} {l:List B1} {i m n:Nat} {α β:Type} {a:α} {κ:α->List β}
def seen {α:Type} (ks:List α):List (α×Bool):=ks.map λk=>(k,true)
theorem Wd {α:Type} {eq:α->α->Bool} (he:∀ x y,eq x y=true↔x=y) {k:α}:∀ {ks:List α},k∉ks->mix eq k (seen ks)=none
 | [],_=>rfl
 | x :: ks,h=>by
  have h1:eq k x≠true:=λe=>h (by simp_all);have:=Wd he (ks:=ks) λhk=>h (List.mem_cons_of_mem _ hk);simp only [seen,List.map_cons,mix,if_neg h1] at this ⊢;simp_all
theorem H9 {eq:α->α->Bool} (he:∀ x y,eq x y=true↔x=y) {k:α} {ks:List α} (h:k∉ks):Option.getD (mget eq (seen ks) k) false=false:=by
 unfold mget;rw [Wd he h];rfl
theorem I9 {α:Type} {eq:α->α->Bool} (he:∀ x y,eq x y=true↔x=y) {k:α}:∀ {ks:List α},k∉ks->mput eq (seen ks) k true=seen (ks++[k])
 | [],_=>rfl
 | x :: ks,h=>by
  have h1:eq k x≠true:=λe=>h (by simp_all);have:=I9 he (ks:=ks) λhk=>h (List.mem_cons_of_mem _ hk);simp  [seen,mput,if_neg h1] at this ⊢;omega
theorem A2n {α:Type} {eq:α->α->Bool} (he:∀ x y,eq x y=true↔x=y) {k:α}:∀ {ks:List α},k∈ks->mput eq (seen ks) k true=seen ks
 | x :: ks,h=>by
  simp only [seen,List.map_cons,mput]
  by_cases e:eq k x=true
  ·simp_all
  ·rw [if_neg e];have hk:k∈ks:=by
    simp_all
   have:=A2n he hk;simp  [seen] at this;rw [this]
theorem Ds (x y:Int):Ty.eqT (.int .i64) x y=true↔x=y:=Ty.Y2 (c:=.int .i64) rfl x y
theorem A3m (x y:List UInt8):Ty.eqT .str x y=true↔x=y:=Ty.Y2 (c:=.str) rfl x y
theorem On (x y:List Int):Ty.eqT C0 x y=true↔x=y:=Ty.Y2 (c:=C0) rfl x y
theorem R6 (x y:Addr):Ty.eqT A5 x y=true↔x=y:=Ty.Y2 (c:=A5) rfl x y
theorem Z5 {x y:Addr} (h:x≠y):Ty.eqT A5 x y=false:=by
 cases hb:Ty.eqT A5 x y with
 | false=>rfl
 | true=>exact absurd ((R6 x y).1 hb) h
theorem A2o {k:Int} {ks:List Int} (h:k∉ks):B0r k (seen ks)=some (true,seen (ks++[k])):=by
 simp only [B0r,H9 Ds h,I9 Ds h];rfl
theorem B2p {k:List UInt8} {ks:List (List UInt8)} (h:k∉ks):f171 k (seen ks)=some (true,seen (ks++[k])):=by
 simp only [f171,H9 A3m h,I9 A3m h];rfl
theorem B2q {k:List Int} {ks:List (List Int)} (h:k∉ks):f172 k (seen ks)=some (true,seen (ks++[k])):=by
 simp only [f172,H9 On h,I9 On h];rfl
theorem B2r {k:Addr} {ks:List Addr} (h:k∉ks):B42 k (seen ks)=some (true,seen (ks++[k])):=by
 simp only [B42,H9 R6 h,I9 R6 h];rfl
theorem X1 {α β:Type} {κ:α->β} {B:List β} {l:List α} (h:(B++l.map κ).Nodup) {i:Nat} {a:α} (ha:l[i]? = some a):κ a∉B++(l.take i).map κ:=λhm=>by
 have hl:l=l.take i++a :: l.drop (i+1):=by
  obtain⟨hi,he⟩:=List.getElem?_eq_some_iff.1 ha;rw [<- he,<- List.drop_eq_getElem_cons hi,List.take_append_drop]
 rw [hl,List.map_append,<- List.append_assoc] at h;have:=(List.nodup_append.1 h).2.2 _ hm (κ a) (List.mem_cons_self ..);exact this rfl
theorem Mp {l:List α} (h:(l.map κ).flatten.Nodup) (ha:l[i]? = some a):(((l.take i).map κ).flatten++κ a).Nodup:=by
 have hl:l=l.take i++[a]++l.drop (i+1):=by
  obtain⟨hi,he⟩:=List.getElem?_eq_some_iff.1 ha;rw [List.append_assoc,<- he,List.singleton_append,<- List.drop_eq_getElem_cons hi,List.take_append_drop]
 rw [hl,List.map_append,List.flatten_append] at h;have:=(List.nodup_append.1 h).1;simpa using this
theorem P1 {α β:Type} {κ:α->β} {l:List α} {i:Nat} {a:α} (ha:l[i]? = some a):(l.take (i+1)).map κ=(l.take i).map κ++[κ a]:=by
 rw [List.take_add_one,ha];simp
theorem Ee {l:List α} (ha:l[i]? = some a):((l.take (i+1)).map κ).flatten=((l.take i).map κ).flatten++κ a:=by
 rw [P1 ha,List.flatten_append];simp
def pmacs (p:B1):List MAC:=p.2.2.2.1
def J0 (p:B1):List Addr:=[p.2.2.2.2.1,p.2.2.2.2.2].filter λa => !(Ty.eqT A5 a F7)
theorem K9 (h:L3 n p):pmacs p=[N0 (100+n)]∨pmacs p=[N0 (100+n),N0 (200+n)]:=by
 obtain⟨o,sw,sp,two,vc,_,_,_,_,rfl⟩:=h;cases two
 ·exact .inl rfl
 ·exact .inr rfl
theorem Bg (h:L3 n p):(p.2.2.2.2.1=F9 n∧p.2.2.2.2.2=F7)∨(p.2.2.2.2.1=F7∧p.2.2.2.2.2=N8 n)∨(p.2.2.2.2.1=F9 n∧p.2.2.2.2.2=N8 n):=by
 obtain⟨o,sw,sp,two,vc,_,_,_,hv,rfl⟩:=h
 match vc,hv with
 | 0,_=>exact .inl ⟨rfl,rfl⟩
 | 1,_=>exact .inr (.inl ⟨rfl,rfl⟩)
 | 2,_=>exact .inr (.inr ⟨rfl,rfl⟩)
theorem Mq {a b:Nat} (h:N0 a=N0 b):a=b:=by simp [N0] at h;omega
theorem Au:F9 n≠F7:=λh=>by simp [F9,F7] at h;omega
theorem Fg:N8 n≠F7:=λh=>by simp [N8,F7] at h
theorem Gt:F9 n≠N8 m:=λh=>by simp [F9,N8] at h
theorem A8a (h:F9 n=F9 m):n=m:=by simp [F9] at h;omega
theorem B2s (h:N8 n=N8 m):n=m:=by simp [N8] at h;omega
theorem Bh (h:L3 n p):J0 p=[F9 n]∨J0 p=[N8 n]∨J0 p=[F9 n,N8 n]:=by
 have e4:Ty.eqT A5 (F9 n) F7=false:=Z5 Au;have e6:Ty.eqT A5 (N8 n) F7=false:=Z5 Fg;have e0:Ty.eqT A5 F7 F7=true:=(R6 _ _).2 rfl;unfold J0;rcases Bg h with ⟨h1,h2⟩ | ⟨h1,h2⟩ | ⟨h1,h2⟩<;>rw [h1,h2]<;>simp [e4,e6,e0]
theorem Mr (h:L3 n p):∃ o:Nat,o<3∧p.1=((3*n+o:Nat):Int):=by
 obtain⟨o,sw,sp,two,vc,ho,_,_,_,rfl⟩:=h;exact⟨o,ho,rfl⟩
def Row (l:List B1):Prop:=l.length<=14∧∀ (i:Nat) p,l[i]? = some p->L3 (i+1) p
theorem Row.pair (h:Row l) {R:B1->B1->Prop} (hR:∀ n m p q,n<m->m<=14->L3 n p->L3 m q->R p q):l.Pairwise R:=by
 rw [List.pairwise_iff_getElem];intro i j hi hj hij;exact hR (i+1) (j+1) _ _ (by omega) (by have:=h.1;omega) (h.2 i _ (List.getElem?_eq_getElem hi)) (h.2 j _ (List.getElem?_eq_getElem hj))
theorem Row.ids (h:Row l):(l.map λp=>p.1).Nodup:=by
 unfold List.Nodup;rw [List.pairwise_map];refine h.pair λn m p q hnm _ hp hq e => ?_;obtain⟨o,ho,h1⟩:=Mr hp;obtain⟨o',ho',h2⟩:=Mr hq<;>omega
theorem Row.macs (h:Row l):(l.map pmacs).flatten.Nodup:=by
 unfold List.Nodup;rw [List.pairwise_flatten,List.pairwise_map];refine⟨λms hms => ?_,h.pair λn m p q hnm hm hp hq x hx y hy e => ?_⟩
 ·obtain⟨p,hp,rfl⟩:=List.mem_map.1 hms;obtain⟨i,hi⟩:=List.getElem?_of_mem hp;rcases K9 (h.2 i p hi) with e | e<;>rw [e]
  ·simp
  ·simp  ;exact λe=>by have:=Mq e;omega
 ·subst e;have h1:x=N0 (100+n)∨x=N0 (200+n):=by
   rcases K9 hp with e | e<;>rw [e] at hx<;>simp at hx
   ·simp_all
   omega
  have h2:x=N0 (100+m)∨x=N0 (200+m):=by
   rcases K9 hq with e | e<;>rw [e] at hy<;>simp at hy
   ·simp_all
   omega
  rcases h1 with h1 | h1<;>rcases h2 with h2 | h2<;>(have:=Mq (h1.symm.trans h2);omega)
theorem Row.addrs (h:Row l):(l.map J0).flatten.Nodup:=by
 unfold List.Nodup;rw [List.pairwise_flatten,List.pairwise_map];refine⟨λms hms => ?_,h.pair λn m p q hnm hm hp hq x hx y hy e => ?_⟩
 ·obtain⟨p,hp,rfl⟩:=List.mem_map.1 hms;obtain⟨i,hi⟩:=List.getElem?_of_mem hp;rcases Bh (h.2 i p hi) with e | e | e<;>rw [e]
  ·simp
  ·simp
  ·simp  ;exact Gt
 ·subst e;have h1:x=F9 n∨x=N8 n:=by
   rcases Bh hp with e | e | e<;>rw [e] at hx<;>simp at hx
   ·simp [*]
   ·simp_all
   omega
  have h2:x=F9 m∨x=N8 m:=by
   rcases Bh hq with e | e | e<;>rw [e] at hy<;>simp at hy
   ·simp_all
   ·simp [*]
   omega
  rcases h1 with h1 | h1<;>rcases h2 with h2 | h2
  ·have:=A8a (h1.symm.trans h2);omega
  ·exact Gt (h1.symm.trans h2)
  ·exact Gt (h2.symm.trans h1)
  ·have:=B2s (h1.symm.trans h2);omega
theorem J4.row {d:A6} (h:J4 d):Row (D9 (A8 d)):=⟨h.few.1,λi p hi=>(h.isPort hi).1⟩
end Go.Top
namespace Go.Top
open Go Go.Vc
variable {d:A6} {n:Nat}
theorem Hu {α:Type} {l:List α} {i:Nat} {a:α} (h:l[i]? = some a):i<l.length:=(List.getElem?_eq_some_iff.1 h).1
theorem B2t {m:A2} (h:B1n m):B3w m=some true:=by
 have hl:=h.few;have hl':1<=m.2.2.2.2.2.length∧m.2.2.2.2.2.length<=2:=hl;unfold B3w;rw [I8 (l:=m.2.2.2.2.2) (x:=.inl ()) (by omega) (λi a ha=>by
  obtain⟨n,_,_,hn⟩:=h.pts a (List.mem_of_getElem? ha);have hm:Ah (a.2.2.2.1.length) 1 2=some true:=by
   have:pmacs a=a.2.2.2.1:=rfl;rw [<- this];rcases K9 hn with e | e<;>rw [e]<;>rfl
  simp only [A18,D2 ha,if_true,A9 ha,A0,hm,Bool.not_true,Bool.false_eq_true,if_false,E8 ha (by omega)]) (by
  simp  [A18,if_false])]
 simp  [D1,Sk (show(1)<=(m.2.2.2.2.2.length:Int) by omega) (show(m.2.2.2.2.2.length:Int)<=4 by omega)]
theorem B2u (h:J4 d):B3x d=some true:=by
 have hf:=h.few;have hs:=h.ls;have hm:=h.lm;unfold B3x;rw [Cd (by omega) (by omega),A0,I8 (l:=A8 d) (x:=.inl ()) (by omega) (λi a ha=>by
  simp only [A19,D2 ha,if_true,A9 ha,A0,B2t (h.own a (List.mem_of_getElem? ha)),Bool.not_true,Bool.false_eq_true,if_false,E8 ha (by omega)]) (by
  simp  [A19,if_false])]
 simp  [D1,decide_eq_true (show(d.2.2.1.length:Int)<=4 by omega),decide_eq_true (show(d.2.2.2.length:Int)<=32 by omega)]
def lan4:G2:=((false,0,3221225984),24)
def lan6:G2:=((true,2306139568115548160,0),64)
theorem B2v:Xh lan4=some true:=by rfl
theorem B2w:Xh lan6=some true:=by rfl
theorem B2x (h:J4 d):B40 d=some true:=by
 have hf:=h.few;have hs:=h.ls;have hm:=h.lm;have loop:loopF (Nz (A8 d)) 0=some (Sum.inl ()):=I8 (l:=A8 d) (x:=Sum.inl ()) (by omega) (λi a ha=>by
  have ho:=h.own a (List.mem_of_getElem? ha);obtain⟨x,hx,e4⟩:=ho.m4;obtain⟨y,hy,e6⟩:=ho.m6;have a1:=Sk ho.asn.1 (show a.1<=4294967295 from Int.le_trans ho.asn.2 (by simp));have a2:=Sl (List.mem_append_left _ ho.name);have a3:Ah a.2.2.2.1 0 512=some true:=Sk (by omega) (by omega);have a4:Ah a.2.2.2.2.1 0 512=some true:=Sk (by omega) (by omega);have hfew:=ho.few.2;have a5:f166 a.2.2.2.2.2=some false:=B2o (ps:=B7 a) (by omega) λp hp=>by
   obtain⟨n,n1,n2,hn⟩:=ho.pts p hp;exact B2n hn n1 n2
  have a6:a.2.2.1=[]∨(a.2.2.1==([]))=false∧f165 a.2.2.1=some true:=by
   have hq:=ho.set;simp  [Pc,or_false] at hq;rcases hq with e | e | e
   ·simp_all
   ·exact .inr (by rw [e];exact⟨rfl,Sl (by simp)⟩)
   ·exact .inr (by rw [e];exact⟨rfl,Sl (by simp)⟩)
  have a7:(a.2.2.1==([45]))=false:=by
   have hq:=ho.set;simp  [Pc,or_false] at hq;rcases hq with e | e | e<;>rw [e]<;>rfl
  rcases a6 with a6 | ⟨a6,a8⟩
  ·have a6:(a.2.2.1==([]))=true:=by simp_all
   simp only [Nz,D2 ha,if_true,A9 ha,A0,a1,a2,a3,a4,a5,a6,a7,Bool.not_true,Bool.false_eq_true,if_false,E8 ha (by omega)]
  ·simp only [Nz,D2 ha,if_true,A9 ha,A0,a1,a2,a3,a4,a5,a6,a7,a8,Bool.not_true,Bool.not_false,Bool.false_eq_true,if_false,E8 ha (by omega)]) (by
  simp  [Nz,if_false])
 have e4:d.1=lan4:=h.lan4;have e6:d.2.1=lan6:=h.lan6;have w4:Ah lan4.2 8 30=some true:=rfl;have w6:Ah lan6.2 32 64=some true:=rfl;have b4:lan4.1.1=false:=rfl;have b6:lan6.1.1=true:=rfl;simp  [B40,e4,e6,B2v,B2w,w4,w6,b4,b6,Cd (show d.2.2.1.length<=1000 by omega) (show d.2.2.2.length<=1000 by omega),loop,D1]
theorem A3n (h1:1<=n) (h2:n<=14):f146 lan4 (F9 n)=some true∧Ty.eqT A5 (F9 n) lan4.1=false∧Ty.eqT A5 (F9 n) (false,0,3221226239)=false:=by
 have:(List.range 15).all (λn=>n==0 || (f146 lan4 (F9 n)==some true&&(Ty.eqT A5 (F9 n) lan4.1==false&&Ty.eqT A5 (F9 n) (false,0,3221226239)==false)))=true:=by rfl
 have:=M6 this (show n<15 by omega);simp   at this;rcases this with h | h<;>omega
theorem A3o (h1:1<=n) (h2:n<=14):f146 lan6 (N8 n)=some true∧Ty.eqT A5 (N8 n) lan6.1=false:=by
 have:(List.range 15).all (λn=>n==0 || (f146 lan6 (N8 n)==some true&&Ty.eqT A5 (N8 n) lan6.1==false))=true:=by rfl
 have:=M6 this (show n<15 by omega);simp   at this;rcases this with h | h<;>omega
theorem C27:f169 lan4=some (false,0,3221226239):=by rfl
theorem B2y (h:J4 d):B41 d=some true:=by
 have hf:=h.few;have hs:=h.ls;have hm:=h.lm;have e4:d.1=lan4:=h.lan4;have e6:d.2.1=lan6:=h.lan6;have loop:loopF (Uc d (D9 (A8 d))) 0=some (Sum.inl ()):=I8 (l:=D9 (A8 d)) (x:=Sum.inl ()) (by omega) (λi a ha=>by
  obtain⟨hp,hi⟩:=h.isPort ha;obtain⟨c1,c2,c3⟩:=A3n (show 1<=i+1 by omega) hi;obtain⟨c4,c5⟩:=A3o (show 1<=i+1 by omega) hi;have n4:Ty.eqT A5 (F9 (i+1)) (false,0,0)=false:=Z5 Au;have n6:Ty.eqT A5 (N8 (i+1)) (false,0,0)=false:=Z5 Fg;have n0:Ty.eqT A5 F7 (false,0,0)=true:=(R6 _ _).2 rfl;rcases Bg hp with ⟨h1,h2⟩ | ⟨h1,h2⟩ | ⟨h1,h2⟩ <;>
  simp only [Uc,D2 ha,if_true,A9 ha,A0,P9,h1,h2,e4,e6,n4,n6,n0,c1,c2,c3,c4,c5,C27,Bool.not_true,Bool.not_false,Bool.false_eq_true,if_false,E8 ha (by omega)]) (by
  simp  [Uc,if_false])
 simp  [B41,Sm (show d.2.2.1.length<=1000 by omega) (show d.2.2.2.length<=1000 by omega) (by omega),loop,D1]
end Go.Top
namespace Go.Top
open Go Go.Vc
variable {d:A6} {p:B1}
theorem J4.asns (h:J4 d):((if d.2.2.1.length=0 then ([]:List Int) else [65000])++d.2.2.2.map λ(m:A2)=>m.1).Nodup:=by
 have hmem:(d.2.2.2.map λm=>m.1).Nodup:=by
  unfold List.Nodup;rw [List.pairwise_map,List.pairwise_iff_getElem];intro i j hi hj hij e;rw [(h.mem i _ (List.getElem?_eq_getElem hi)).asn,(h.mem j _ (List.getElem?_eq_getElem hj)).asn] at e;simp  [nmM] at e;omega
 refine List.nodup_append.2 ⟨by split<;>simp,hmem,λx hx y hy e => ?_⟩;subst e;obtain⟨m,hmm,rfl⟩:=List.mem_map.1 hy;obtain⟨i,hi⟩:=List.getElem?_of_mem hmm;have hx2:=by
  split at hx
  ·cases hx
  ·simpa using hx
 rw [(h.mem i m hi).asn] at hx2;simp  [nmM] at hx2;omega
theorem J4.names (h:J4 d):((A8 d).map λm=>m.2.1).Nodup:=by
 have hs:=h.ls;have hm:=h.lm;have key:(A8 d).map (λm=>m.2.1)=([[114,115,45,49],[114,115,45,50]]).take d.2.2.1.length++([[97],[98,45,50],[67,58,51],[100,101,108,116,97],[101]]).take d.2.2.2.length:=by
  unfold A8;rw [List.map_append];congr 1
  ·apply List.ext_getElem
   ·simp [*]
   ·intro i h1 h2;simp  ;simp at h1;rw [(h.srv i _ (List.getElem?_eq_getElem h1)).name];have:i<2:=by omega
    match i,this with
    | 0,_=>rfl
    | 1,_=>rfl
  ·apply List.ext_getElem
   ·simp [*]
   ·intro i h1 h2;simp  ;simp at h1;rw [(h.mem i _ (List.getElem?_eq_getElem h1)).name];have:i<5:=by omega
    match i,this with
    | 0,_=>rfl
    | 1,_=>rfl
    | 2,_=>rfl
    | 3,_=>rfl
    | 4,_=>rfl
 rw [key];have:(([[114,115,45,49],[114,115,45,50]])++([[97],[98,45,50],[67,58,51],[100,101,108,116,97],[101]]:List (List UInt8))).Nodup:=by simp
 refine this.sublist ?_;exact(List.take_sublist _ _).append (List.take_sublist _ _)
theorem J4.srv_asn (h:J4 d) {i:Nat} {m:A2} (hi:d.2.2.1[i]? = some m):m.1=65000:=(h.srv i m hi).asn
theorem B5v (h:J4 d):loopF (Jg d) (0,[])=some (Sum.inl (seen (if d.2.2.1.length=0 then [] else [65000]))):=by
 have hs:=h.ls;refine C7 (tb:=Jg d) (λi=>((i),seen (if i=0 then ([]) else [65000]))) d.2.2.1.length (by omega) (λi hi => ?_) ?_
 ·have ha:=List.getElem?_eq_getElem hi;have hasn:=h.srv_asn ha;cases i with
  | zero =>
   have hlt:=D2 ha;have hnx:=A9 ha;simp only [Jg,hlt,hnx,A0,hasn];rfl
  | succ i =>
   have h0:0<d.2.2.1.length:=by omega
   have hb:=List.getElem?_eq_getElem h0;have hasn0:=h.srv_asn hb;have hb':idx d.2.2.1 0=some d.2.2.1[0]:=A9 (k:=0) hb;have e1:mput (Ty.eqT (.int .i64)) (seen [65000]) 65000 true=seen [65000]:=A2n Ds (by simp);simp only [Jg,D2 ha,if_true,A9 ha,A0,decide_eq_true (show(0)<((i+1:Nat):Int) by omega),hb',hasn,hasn0,show((65000:Int) != 65000)=false from rfl,Bool.false_eq_true,if_false,Nat.add_one_ne_zero,e1,E8 ha (by omega)]
 ·simp  [Jg,if_false]
theorem B5w (h:J4 d):loopF (Oc d) (true,0,seen (if d.2.2.1.length=0 then [] else [65000]))=some true:=by
 have hm:=h.lm;have hn:=h.asns;generalize (if d.2.2.1.length=0 then ([]:List Int) else [65000])=B at hn ⊢;have:=C7 (tb:=Oc d) (x:=true) (λi=>(true,(i),seen (B++(d.2.2.2.take i).map λm=>m.1))) d.2.2.2.length (by omega) (λi hi=>by
  have ha:=List.getElem?_eq_getElem hi;have hf:=X1 hn ha;simp only [Oc,D2 ha,if_true,A9 ha,A0,A2o hf,E8 ha (by omega),P1 ha,<- List.append_assoc]) (by
  simp  [Oc,if_false])
 simp_all
theorem B5x (h:J4 d):loopF (Od (A8 d)) (true,0,[])=some true:=by
 have hf:=h.few;have hn:=h.names;have:=C7 (tb:=Od (A8 d)) (x:=true) (λi=>(true,(i),seen (((A8 d).take i).map λm=>m.2.1))) (A8 d).length (by omega) (λi hi=>by
  have ha:=List.getElem?_eq_getElem hi;have hf:=X1 (B:=[]) (by simpa using hn) ha;rw [List.nil_append] at hf;simp only [Od,D2 ha,if_true,A9 ha,A0,B2p hf,E8 ha (by omega),P1 ha]) (by
  simp  [Od,if_false])
 exact this
theorem B5y {B:List MAC} (hn:(B++pmacs p).Nodup) (hl:(pmacs p).length<=100):loopF (Oe p) (true,0,seen B)=some (true,seen (B++pmacs p)):=by
 have hn':(B++(pmacs p).map λx=>x).Nodup:=by simp [*]
 have:=C7 (tb:=Oe p) (x:=(true,seen (B++pmacs p))) (λi=>(true,(i),seen (B++((pmacs p).take i).map λx=>x))) (pmacs p).length (by omega) (λi hi=>by
  have ha:=List.getElem?_eq_getElem hi;have hf:=X1 (κ:=λx=>x) hn' ha;have ha':p.2.2.2.1[i]? = some (pmacs p)[i]:=ha;simp only [Oe,D2 ha',if_true,A9 ha',A0,B2q hf,E8 ha (by omega),P1 (κ:=λx=>x) ha,<- List.append_assoc]) (by
  have:decide (((pmacs p).length)<(p.2.2.2.1.length:Int))=false:=Dg (pmacs p);simp only [Oe,this,Bool.false_eq_true,if_false,List.take_length,List.map_id'])
 simp_all
theorem B5z {B:List Addr} (hn:(B++J0 p).Nodup):loopF (Ck p 2) (true,0,seen B)=some (true,seen (B++J0 p)):=by
 have z:∀ a ,Ty.eqT A5 a (false,0,0)=Ty.eqT A5 a F7:=λ_=>rfl;have step:∀ (i:Nat) (a:Addr) (B:List Addr),[p.2.2.2.2.1,p.2.2.2.2.2][i]? = some a->((B++[a].filter λa => !(Ty.eqT A5 a F7)).Nodup)->Ck p 2 (true,(i),seen B)=some (.inr (true,((i+1:Nat)),seen (B++[a].filter λa => !(Ty.eqT A5 a F7)))):=λi a B ha hB=>by
  have hi:i<2:=Hu ha;have hlt:decide ((i:Int)<2)=true:=decide_eq_true (by omega);have hs:w64 ((i)+1)=((i+1:Nat)):=K0 (by omega);cases hz:Ty.eqT A5 a F7 with
  | true=>simp  [Ck,hlt,A9 ha,z,hz,hs,List.append_nil]
  | false =>
   have hf:=λhm=>by
    simp  [hz] at hB;exact(List.nodup_append.1 hB).2.2 a hm a (by simp) rfl
   simp  [Ck,hlt,A9 ha,z,hz,B2r hf,hs,Bool.not_false]
 have hsplit:J0 p=([p.2.2.2.2.1].filter λa => !(Ty.eqT A5 a F7))++([p.2.2.2.2.2].filter λa => !(Ty.eqT A5 a F7)):=by
  rw [<- List.filter_append];rfl
 rw [hsplit,<- List.append_assoc] at hn ⊢;refine M5 (n:=3) (by omega) ?_;have s0:=step 0 _ B rfl (List.nodup_append.1 hn).1;have s1:=step 1 _ (B++[p.2.2.2.2.1].filter λa => !(Ty.eqT A5 a F7)) rfl hn;have s2:Ck p 2 (true,((1+1:Nat)),seen (B++([p.2.2.2.2.1].filter λa => !(Ty.eqT A5 a F7))++([p.2.2.2.2.2].filter λa => !(Ty.eqT A5 a F7))))=some (.inl (true,seen (B++([p.2.2.2.2.1].filter λa => !(Ty.eqT A5 a F7))++([p.2.2.2.2.2].filter λa => !(Ty.eqT A5 a F7))))):=rfl;have i1:K5 (Ck p 2) 1 (true,((1+1:Nat)),seen (B++([p.2.2.2.2.1].filter λa => !(Ty.eqT A5 a F7))++([p.2.2.2.2.2].filter λa => !(Ty.eqT A5 a F7))))=some (true,seen (B++([p.2.2.2.2.1].filter λa => !(Ty.eqT A5 a F7))++([p.2.2.2.2.2].filter λa => !(Ty.eqT A5 a F7)))):=by rfl
 have i2:K5 (Ck p 2) 2 (true,((1:Nat)),seen (B++([p.2.2.2.2.1].filter λa => !(Ty.eqT A5 a F7))))=some (true,seen (B++([p.2.2.2.2.1].filter λa => !(Ty.eqT A5 a F7))++([p.2.2.2.2.2].filter λa => !(Ty.eqT A5 a F7)))):=by rw [K5,s1];exact i1
 rw [K5,show Ck p 2 (true,0,seen B)=_ from s0];exact i2
theorem B60 {l:List B1} (h:Row l):loopF (Of l) (true,0,[],[],[])=some true:=by
 have hl:=h.1;have:=C7 (tb:=Of l) (x:=true) (λi=>(true,(i),seen ((l.take i).map λp=>p.1),seen ((l.take i).map pmacs).flatten,seen ((l.take i).map J0).flatten)) l.length (by omega) (λi hi=>by
  have ha:=List.getElem?_eq_getElem hi;have hf:=X1 (B:=[]) (by simpa using h.ids) ha;rw [List.nil_append] at hf;have hm:=Mp h.macs ha;have had:=Mp h.addrs ha;have hml:(pmacs l[i]).length<=100:=by rcases K9 (h.2 i _ ha) with e | e<;>rw [e]<;>simp
  simp only [Of,D2 ha,if_true,A9 ha,A0,P9,A2o hf,B5y hm hml,show(([l[i].2.2.2.2.1,l[i].2.2.2.2.2]).length:Int)=2 from rfl,B5z had,E8 ha (by omega),P1 ha,List.flatten_append,List.flatten_cons,List.flatten_nil,List.append_nil]) (by
  simp  [Of,if_false])
 exact this
theorem B2z (h:J4 d):B43 d=some true:=by
 have hf:=h.few;have hs:=h.ls;have hm:=h.lm;have h1:=Sm (show d.2.2.1.length<=1000 by omega) (show d.2.2.2.length<=1000 by omega) (by omega);have h0:=Cd (show d.2.2.1.length<=1000 by omega) (show d.2.2.2.length<=1000 by omega);simp only [B43,B5v h,A0,D1,B5w h,h0,B5x h,h1,B60 h.row]
theorem Zq (h:J4 d):f63 d=some 0:=by
 simp  [f63,B2u h,B2x h,B2y h,B2z h,if_false]
end Go.Top
namespace Go.Top
open Go Go.Vc Go.Lib
def pw:List Int:=pow10Tab
def R5:List Int:=[0,1,56,2,57,49,28,3,61,58,42,50,38,29,17,4,62,47,59,36,45,43,51,22,53,39,33,30,24,18,12,5,63,55,48,27,60,41,37,16,46,35,44,21,52,32,23,11,54,26,40,15,34,20,31,10,25,14,19,9,13,8,7,6]
def Pd (s:List UInt8):Bool:=decide (1<=s.length)&&decide (s.length<=60)&&s.all λb=>b != 10&&b != 32&&b != 44
def dashB (s:List UInt8):Bool:=s != [45]
def B93:List Nat:=List.range 101++[400,65000]
theorem B30:B93.all (λn=>Pd (G4 n)&&(B0m (G4 n)==some (n:Int)&&(B0l (n:Int) pw==some (G4 n))))=true:=by kernel_rfl
def B1o (k:Nat):List UInt8:=(Ud (N0 k)).getD []
theorem B31:(List.range 256).all (λk=>Pd (B1o k)&&(Ud (N0 k)==some (B1o k)&&A67 (B1o k)==some (0,N0 k)))=true:=by kernel_rfl
def tx4 (n:Nat):List UInt8:=(Pb (F9 n) pw R5).getD []
def tx6 (n:Nat):List UInt8:=(Pb (N8 n) pw R5).getD []
theorem A8b (m:Int):(List.range 15).all (λk=>Pd (tx4 k)&&(dashB (tx4 k)&&(Pb (F9 k) pw R5==some (tx4 k)&&A66 (tx4 k) m pw==some (0,F9 k))))=true:=by kernel_rfl
theorem B32 (m:Int):(List.range 15).all (λk=>Pd (tx6 k)&&(dashB (tx6 k)&&(Pb (N8 k) pw R5==some (tx6 k)&&A66 (tx6 k) m pw==some (0,N8 k))))=true:=by kernel_rfl
def l4:List UInt8:=(Xi lan4 pw R5).getD []
def l6:List UInt8:=(Xi lan6 pw R5).getD []
theorem Zr (m:Int):(Pd l4&&(Xi lan4 pw R5==some l4&&B47 l4 m pw==some (0,lan4)))=true:=by rfl
theorem Zs (m:Int):(Pd l6&&(Xi lan6 pw R5==some l6&&B47 l6 m pw==some (0,lan6)))=true:=by kernel_rfl
end Go.Top
namespace Go.Top
open Go Go.Vc Go.Lib
variable {p:B1} {ws:List (List UInt8)} {n:Nat} {c:UInt8}
theorem B33 (a b:List UInt8):J7 (a++b)=J7 a++J7 b:=by simp [J7]
theorem A2p (a:List UInt8):(J7 a).length=a.length:=by simp [J7]
theorem B34 (a:List UInt8):En (J7 a)=a:=by
 simp  [En,J7];induction a with
 | nil=>rfl
 | cons x a ih=>simp [*]
structure Y4 (w:List UInt8):Prop where
 lo:1<=w.length
 hi:w.length<=80
 nl:10∉w
 sp:32∉w
theorem Y4.of {w:List UInt8} (h:Pd w=true):Y4 w∧44∉w∧w.length<=60:=by
 simp  [Pd,ne_eq] at h;obtain⟨⟨h1,h2⟩,h3⟩:=h;exact⟨⟨h1,by omega,λhm=>(h3 _ hm).1.1 rfl,λhm=>(h3 _ hm).1.2 rfl⟩,λhm=>(h3 _ hm).2 rfl,h2⟩
theorem Ms {B:Nat} {c:UInt8}:∀ {ws:List (List UInt8)},(∀ w∈ws,w.length<=B)->(join ws [c]).length<=ws.length*(B+1)
 | [],_=>by simp [join_nil]
 | w :: ws,h=>by
  have key:∀ ws ,(∀ w∈ws,w.length<=B)->(joinTail [c] ws).length<=ws.length*(B+1):=by
   intro ws;induction ws with
   | nil=>simp [joinTail]
   | cons w ws ih =>
    intro h;have h1:=ih λx hx=>h x (List.mem_cons_of_mem _ hx);have h2:=h w (List.mem_cons_self ..);simp  [joinTail,Nat.succ_mul] at h1 ⊢;omega
  have h1:=key ws λx hx=>h x (List.mem_cons_of_mem _ hx);have h2:=h w (List.mem_cons_self ..);rw [join_cons,List.length_append,List.length_cons,Nat.succ_mul];omega
theorem Mu {x:UInt8} (hx:x≠c):∀ {ws:List (List UInt8)},(∀ w∈ws,x∉w)->x∉join ws [c]
 | [],_=>by simp [join_nil]
 | w :: ws,h=>by
  rw [join_cons];intro hm;rcases List.mem_append.1 hm with hm | hm
  ·simp_all
  ·simp only [joinTail,List.mem_flatten,List.mem_map] at hm;obtain⟨l,⟨w',hw',rfl⟩,hl⟩:=hm<;>simp_all
theorem Mv {c:UInt8}:∀ {w:List UInt8},c∉w->N5 c w=[w]
 | [],_=>rfl
 | b :: w,h=>by
  have hb:b≠c:=λe=>h (e ▸ List.mem_cons_self ..);simp  [N5,if_neg hb,Mv (w:=w) λhm=>h (List.mem_cons_of_mem _ hm)]
theorem Mw {c:UInt8} (r:List UInt8):∀ {w:List UInt8},c∉w->N5 c (w++c :: r)=w :: N5 c r
 | [],_=>by simp [N5]
 | b :: w,h=>by
  have hb:b≠c:=λe=>h (e ▸ List.mem_cons_self ..);simp  [N5,if_neg hb,Mw r (w:=w) λhm=>h (List.mem_cons_of_mem _ hm)]
theorem Fh {c:UInt8}:∀ {ws:List (List UInt8)},ws≠[]->(∀ w∈ws,c∉w)->N5 c (join ws [c])=ws
 | [],h,_=>absurd rfl h
 | [w],_,h=>by rw [join_one,Mv (h w (List.mem_cons_self ..))]
 | w :: w' :: ws,_,h=>by
  have e:join (w :: w' :: ws) [c]=w++c :: join (w' :: ws) [c]:=by
   rfl
  rw [e,Mw _ (h w (List.mem_cons_self ..)),Fh (by simp) λx hx=>h x (List.mem_cons_of_mem _ hx)]
def J1 (ws:List (List UInt8)):List UInt8:=join ws [32]++[10]
structure R7 (ws:List (List UInt8)):Prop where
 ne:ws≠[]
 few:ws.length<=7
 tok:∀ w∈ws,Y4 w
theorem R7.len (h:R7 ws):(J1 ws).length<=600:=by
 have h1:=Ms (B:=80) (c:=32) λw hw=>(h.tok w hw).hi;have h2:=h.few;simp  [J1,List.length_nil];omega
theorem R7.split (h:R7 ws):N5 32 (join ws [32])=ws:=Fh h.ne λw hw=>(h.tok w hw).sp
theorem R7.nl {ws:List (List UInt8)} (h:R7 ws):10∉join ws [32]:=Mu (by simp) λw hw=>(h.tok w hw).nl
theorem Kb:∀ {ls:List (List (List UInt8))},(∀ ws∈ls,R7 ws)->N5 10 (ls.map J1).flatten=ls.map (λws=>join ws [32])++[[]]
 | [],_=>rfl
 | ws :: ls,h=>by
  have h1:=(h ws (List.mem_cons_self ..)).nl;have ih:=Kb (ls:=ls) λx hx=>h x (List.mem_cons_of_mem _ hx);simp  [J1,List.nil_append] at ih ⊢;rw [Mw _ h1,ih]
theorem Ef:∀ {ls:List (List (List UInt8))},(∀ ws∈ls,R7 ws)->(ls.map J1).flatten.length<=600*ls.length
 | [],_=>by simp
 | ws :: ls,h=>by
  have h1:=(h ws (List.mem_cons_self ..)).len;have ih:=Ef (ls:=ls) λx hx=>h x (List.mem_cons_of_mem _ hx);simp   at ih ⊢;omega
theorem We (h:ws.length<=100) (hw:∀ w∈ws,w.length<=100):Ua ws [c]=some (join ws [c]):=by
 have h1:=Ms (c:=c) hw;show A3b ws [c]=_;unfold A3b;rw [B5];rw [Bool.and_eq_true];exact⟨I1 (by omega),I1 (by omega)⟩
theorem R7.join (h:R7 ws):Ua ws [32]=some (join ws [32]):=We (by have:=h.few;omega) λw hw=>by have:=(h.tok w hw).hi;omega
theorem B35 (h:R7 ws):B0s ws=some (J7 (J1 ws)):=by
 have hl:=h.len;have hq:(J1 ws).length<=4294967296:=by omega
 simp only [B0s,h.join,A0,show Go.Lib.join ws [32]++[10]=J1 ws from rfl];rw [B5 (I1 hq)];simp  [B7u,show Go.Lib.join ws [32]++[10]=J1 ws from rfl];rw [B5 (I1 hq)];rfl
theorem Wf {ws:List (List UInt8)} (h:R7 ws) {t:List UInt8} (ht:t.length<=100000):Kf ws (J7 t)=some (J7 (t++J1 ws)):=by
 have hl:=h.len;have hq:(J1 ws).length<=4294967296:=by omega
 simp only [Kf,h.join,A0,show Go.Lib.join ws [32]++[10]=J1 ws from rfl];rw [B5 (I1 hq)];simp only [B0u,A0];have e:=(B33 t (J1 ws)).symm;rw [e,B5 (I1 (by rw [A2p,List.length_append];omega))];rfl
def Bq (a:Addr):List UInt8:=(Pb a pw R5).getD []
def T4 (x:MAC):List UInt8:=(Ud x).getD []
def Cl (p:B1):List UInt8:=join ((pmacs p).map T4) [44]
def X2 (s:List UInt8):List UInt8:=(B0t s).getD []
def Xy:List UInt8:=[112,111,114,116]
def R8 (p:B1):List (List UInt8):=[Xy,G4 p.1,G4 p.2.1,G4 p.2.2.1,Cl p,Bq p.2.2.2.2.1,Bq p.2.2.2.2.2]
def Ae (word:List UInt8) (m:A2):List (List UInt8):=[word,G4 m.1,m.2.1,X2 m.2.2.1,G4 m.2.2.2.1,G4 m.2.2.2.2.1]
structure Eu (n:Int):Prop where
 tok:Y4 (G4 n)
 get:B3t (G4 n)=some n
 put:Ny n pw=some (G4 n)
 lo:0<=n
 hi:n<=65000
theorem Zt {n:Nat} (h:n∈B93):Eu (n:Int):=by
 have:=List.all_eq_true.1 B30 n h;simp   at this;have hle:B93.all (λn=>decide (n<=65000))=true:=by rfl
 have:=List.all_eq_true.1 hle n h;simp   at this;rename_i h1;exact⟨(Y4.of h1.1).1,h1.2.1,h1.2.2,by omega,by omega⟩
theorem T7 {n:Nat} (h:n<=100):Eu (n:Int):=Zt (List.mem_append_left _ (List.mem_range.2 (by omega)))
structure A6e (a:Addr):Prop where
 tok:Y4 (Bq a)
 put:Pb a pw R5=some (Bq a)
 get:a=F7∧Bq a=[45]∨Bq a≠[45]∧∀ m:Int,A66 (Bq a) m pw=some (0,a)
theorem A2q (h:n<=14):A6e (F9 n):=by
 have key:=λm=>M6 (A8b m) (show n<15 by omega);simp  [dashB,ne_eq] at key;have e:Bq (F9 n)=tx4 n:=rfl;exact⟨by exact(Y4.of (key 0).1).1,by exact(key 0).2.2.1,.inr ⟨by exact(key 0).2.1,λm=>by simp [*]⟩⟩
theorem A8c (h:n<=14):A6e (N8 n):=by
 have key:=λm=>M6 (B32 m) (show n<15 by omega);simp  [dashB,ne_eq] at key;have e:Bq (N8 n)=tx6 n:=rfl;exact⟨by exact(Y4.of (key 0).1).1,by exact(key 0).2.2.1,.inr ⟨by exact(key 0).2.1,λm=>by simp [*]⟩⟩
theorem A2r:A6e F7:=⟨⟨by decide,by decide,by decide,by decide⟩,rfl,.inl ⟨rfl,rfl⟩⟩
theorem B61 {k:Nat} (h:k<256):Y4 (T4 (N0 k))∧44∉T4 (N0 k)∧(T4 (N0 k)).length<=60∧Ud (N0 k)=some (T4 (N0 k))∧A67 (T4 (N0 k))=some (0,N0 k):=by
 have key:=M6 B31 h;simp   at key;obtain⟨h1,h2,h3⟩:=Y4.of key.1;exact⟨h1,h2,h3,key.2.1,key.2.2⟩
structure Dt (p:B1):Prop where
 id:Eu p.1
 sw:Eu p.2.1
 sp:Eu p.2.2.1
 a4:A6e p.2.2.2.2.1
 a6:A6e p.2.2.2.2.2
 macs:∀ x∈pmacs p,Y4 (T4 x)∧44∉T4 x∧(T4 x).length<=39∧Ud x=some (T4 x)∧A67 (T4 x)=some (0,x)
 some:1<=(pmacs p).length∧(pmacs p).length<=2
theorem B36:(List.range 256).all (λk=>decide ((T4 (N0 k)).length<=39))=true:=by kernel_rfl
theorem A8d (h:L3 n p) (hn:n<=14):Dt p:=by
 have hm:∀ k,k<256->Y4 (T4 (N0 k))∧44∉T4 (N0 k)∧(T4 (N0 k)).length<=39∧Ud (N0 k)=some (T4 (N0 k))∧A67 (T4 (N0 k))=some (0,N0 k):=λk hk=>by
  obtain⟨h1,h2,h3,h4,h5⟩:=B61 hk;exact⟨h1,h2,of_decide_eq_true (M6 B36 hk),h4,h5⟩
 have hmacs:=K9 h;have hads:=Bg h;obtain⟨o,sw,sp,two,vc,b1,b2,b3,b4,e⟩:=h;have e1:p.1=((3*n+o:Nat)):=by rw [e];rfl
 have e2:p.2.1=(sw):=by rw [e];rfl
 have e3:p.2.2.1=([1,10,100,400]).getD sp 1:=by rw [e];rfl
 refine⟨by rw [e1];exact T7 (by omega),by rw [e2];exact T7 (by omega),?_,?_,?_,λx hx => ?_,?_⟩
 ·rw [e3]
  match sp,b3 with
  | 0,_=>exact T7 (n:=1) (by simp)
  | 1,_=>exact T7 (n:=10) (by simp)
  | 2,_=>exact T7 (n:=100) (by simp)
  | 3,_=>exact Zt (n:=400) (by decide)
 ·rcases hads with ⟨h1,_⟩ | ⟨h1,_⟩ | ⟨h1,_⟩<;>rw [h1]
  ·exact A2q hn
  ·exact A2r
  ·exact A2q hn
 ·rcases hads with ⟨_,h1⟩ | ⟨_,h1⟩ | ⟨_,h1⟩<;>rw [h1]
  ·exact A2r
  ·exact A8c hn
  ·exact A8c hn
 ·rcases hmacs with h | h<;>rw [h] at hx<;>simp at hx
  ·rw [hx];exact hm _ (by omega)
  ·rcases hx with hx | hx<;>rw [hx]
   ·exact hm _ (by omega)
   ·exact hm _ (by omega)
 ·rcases hmacs with h | h<;>rw [h]<;>simp
theorem Dt.macsTok (h:Dt p):Y4 (Cl p):=by
 have h1:=Ms (c:=44) (B:=39) (ws:=(pmacs p).map T4) λw hw=>by
  obtain⟨x,hx,rfl⟩:=List.mem_map.1 hw;exact(h.macs x hx).2.2.1
 have h2:=h.some;rw [List.length_map] at h1;refine⟨?_,?_,Mu (by simp) λw hw => ?_,Mu (by simp) λw hw => ?_⟩
 ·unfold Cl
  match hp:pmacs p,h2 with
  | x :: l,_ =>
   rw [List.map_cons,join_cons,List.length_append];have:=(h.macs x (by simp_all)).1.lo;omega
 ·unfold Cl;omega
 ·obtain⟨x,hx,rfl⟩:=List.mem_map.1 hw;exact(h.macs x hx).1.nl
 ·obtain⟨x,hx,rfl⟩:=List.mem_map.1 hw;exact(h.macs x hx).1.sp
theorem Dt.line {p:B1} (h:Dt p):R7 (R8 p):=by
 refine⟨by simp [R8],by simp [R8],λw hw => ?_⟩;simp  [R8,or_false] at hw;rcases hw with rfl | rfl | rfl | rfl | rfl | rfl | rfl
 ·exact⟨by decide,by decide,by decide,by decide⟩
 ·exact h.id.tok
 ·exact h.sw.tok
 ·exact h.sp.tok
 ·exact h.macsTok
 ·exact h.a4.tok
 ·exact h.a6.tok
structure Oo (m:A2):Prop where
 asn:Eu m.1
 name:Y4 m.2.1
 set:Y4 (X2 m.2.2.1)∧B0t m.2.2.1=some (X2 m.2.2.1)∧(m.2.2.1=[]∧X2 m.2.2.1=[45]∨X2 m.2.2.1≠[45]∧X2 m.2.2.1=m.2.2.1)
 m4:Eu m.2.2.2.1
 m6:Eu m.2.2.2.2.1
 pts:∀ p∈B7 m,Dt p
theorem Oo.line {m:A2} (h:Oo m) {word:List UInt8} (hw:Y4 word):R7 (Ae word m):=by
 refine⟨by simp [Ae],by simp [Ae],λw hw' => ?_⟩;simp  [Ae,or_false] at hw';rcases hw' with rfl | rfl | rfl | rfl | rfl | rfl
 ·omega
 ·exact h.asn.tok
 ·exact h.name
 ·exact h.set.1
 ·exact h.m4.tok
 ·exact h.m6.tok
end Go.Top
namespace Go.Top
open Go Go.Vc Go.Lib
variable {m:A2} {d:A6}
def W7:List UInt8:=[115,101,114,118,101,114]
def T1:List UInt8:=[109,101,109,98,101,114]
def Du:List UInt8:=[108,97,110]
def Jk (x:List UInt8×A2):List (List (List UInt8)):=Ae x.1 x.2 :: (B7 x.2).map R8
def ow (d:A6):List (List UInt8×A2):=d.2.2.1.map (λm=>(W7,m))++d.2.2.2.map (λm=>(T1,m))
def I2 (d:A6):List (List (List UInt8)):=[Du,l4,l6] :: ((ow d).map Jk).flatten
def Af (d:A6):List UInt8:=((I2 d).map J1).flatten
theorem A8e:Ad.all Pd=true:=by rfl
theorem A8f:Pc.all (λs=>Pd (X2 s)&&(B0t s==some (X2 s)&&(s==[]&&X2 s==[45] || dashB (X2 s)&&X2 s==s)))=true:=by rfl
theorem J4.ownT (h:J4 d):∀ m∈A8 d,Oo m:=λm hm=>by
 have ho:=h.own m hm;have hasn:Eu m.1:=by
  rcases List.mem_append.1 hm with hm | hm
  ·obtain⟨i,hi⟩:=List.getElem?_of_mem hm;rw [h.srv_asn hi];exact Zt (n:=65000) (by decide)
  ·obtain⟨i,hi⟩:=List.getElem?_of_mem hm;have:=Hu hi;have hlm:=h.lm;rw [(h.mem i m hi).asn];exact T7 (by omega)
 have hset:=List.all_eq_true.1 A8f _ ho.set;simp  [dashB,ne_eq] at hset;obtain⟨x,hx,e4⟩:=ho.m4;obtain⟨y,hy,e6⟩:=ho.m6;exact⟨hasn,(Y4.of (List.all_eq_true.1 A8e _ ho.name)).1,⟨(Y4.of hset.1).1,hset.2.1,hset.2.2⟩,by rw [e4];exact T7 (by omega),by rw [e6];exact T7 (by omega),λp hp=>by
  obtain⟨n,_,n2,hn⟩:=ho.pts p hp;exact A8d hn n2⟩
theorem Zu (d:A6):(ow d).length=(A8 d).length:=by simp [ow,A8]
theorem B9i {i:Nat} (h:(A8 d)[i]? = some m):(ow d)[i]? = some ((if i<d.2.2.1.length then W7 else T1),m):=by
 unfold A8 at h;unfold ow;rw [List.getElem?_append] at h ⊢;simp only [List.length_map];split at h
 ·simp_all
 simp [*]
theorem A8g {x:List UInt8×A2} (h:x∈ow d):x.2∈A8 d∧(x.1=W7∨x.1=T1):=by
 rcases List.mem_append.1 h with h | h
 ·obtain⟨m,hm,rfl⟩:=List.mem_map.1 h;exact⟨List.mem_append_left _ hm,.inl rfl⟩
 ·obtain⟨m,hm,rfl⟩:=List.mem_map.1 h;exact⟨List.mem_append_right _ hm,.inr rfl⟩
theorem Dh {w:List UInt8} (h:w=W7∨w=T1):Y4 w:=by
 rcases h with rfl | rfl
 ·exact⟨by decide,by decide,by decide,by decide⟩
 ·exact⟨by decide,by decide,by decide,by decide⟩
theorem J4.lineOk (h:J4 d):∀ ws∈I2 d,R7 ws:=λws hw=>by
 rcases List.mem_cons.1 hw with rfl | hw
 ·have h4:=Zr 0;have h6:=Zs 0;rw [Bool.and_eq_true] at h4 h6;refine⟨by simp,by simp,λw hw => ?_⟩;simp   at hw;rcases hw with rfl | rfl | rfl
  ·exact⟨by decide,by decide,by decide,by decide⟩
  ·exact(Y4.of h4.1).1
  ·exact(Y4.of h6.1).1
 ·obtain⟨l,hl,hwl⟩:=List.mem_flatten.1 hw;obtain⟨x,hx,rfl⟩:=List.mem_map.1 hl;obtain⟨hm,hwd⟩:=A8g hx;have ho:=h.ownT x.2 hm;rcases List.mem_cons.1 hwl with rfl | hwl
  ·exact ho.line (Dh hwd)
  ·obtain⟨p,hp,rfl⟩:=List.mem_map.1 hwl;exact(ho.pts p hp).line
theorem Mx {d:A6} (h:J4 d):∀ {l:List (List UInt8×A2)},(∀ x∈l,x∈ow d)->((l.map Jk).flatten).length<=3*l.length
 | [],_=>by simp
 | x :: l,hl=>by
  have ih:=Mx h (l:=l) λy hy=>hl y (List.mem_cons_of_mem _ hy);have h1:=(h.own x.2 (A8g (hl x (List.mem_cons_self ..))).1).few;simp  [Jk,List.length_map] at ih ⊢;omega
theorem J4.text_len (h:J4 d):(Af d).length<=14000∧(I2 d).length<=22:=by
 have h1:=Ef h.lineOk;have h2:=Mx h (l:=ow d) λx hx=>hx;have h3:=h.few.2.2;rw [Zu] at h2;have h4:(I2 d).length<=22:=by simp only [I2,List.length_cons];omega
 unfold Af;omega
theorem A8h {p:B1} (h:Dt p):loopF (Xj p) (0,[])=some ((pmacs p).map T4):=by
 have hs:=h.some;have:=C7 (tb:=Xj p) (x:=(pmacs p).map T4) (λi=>((i),((pmacs p).take i).map T4)) (pmacs p).length (by omega) (λi hi=>by
  have ha:=List.getElem?_eq_getElem hi;have ha':p.2.2.2.1[i]? = some (pmacs p)[i]:=ha;have hm:=(h.macs _ (List.mem_of_getElem? ha)).2.2.2.1;simp only [Xj,D2 ha',if_true,A9 ha',A0,hm];rw [B5 (I1 (show(((pmacs p).take i).map T4++[T4 (pmacs p)[i]]).length<=4294967296 by simp;omega)),E8 ha (by omega),P1 ha]) (by
  have:decide (((pmacs p).length)<(p.2.2.2.1.length:Int))=false:=Dg (pmacs p);simp only [Xj,this,Bool.false_eq_true,if_false,List.take_length])
 simp_all
theorem A8i (h:Oo m) (hf:(B7 m).length<=2) {t:List UInt8} (ht:t.length<=90000):loopF (Rf pw R5 m) (0,J7 t)=some (J7 (t++(((B7 m).map R8).map J1).flatten)):=by
 have hlen:∀ i,((((B7 m).take i).map R8).map J1).flatten.length<=1200:=λi=>by
  have h1:=Ef (ls:=((B7 m).take i).map R8) λws hw=>by
   obtain⟨p,hp,rfl⟩:=List.mem_map.1 hw;exact(h.pts p (List.mem_of_mem_take hp)).line
  have h2:((((B7 m).take i).map R8).length)<=2:=by simp;omega
  omega
 have:=C7 (tb:=Rf pw R5 m) (x:=J7 (t++(((B7 m).map R8).map J1).flatten)) (λi=>((i),J7 (t++((((B7 m).take i).map R8).map J1).flatten))) (B7 m).length (by omega) (λi hi=>by
  have ha:=List.getElem?_eq_getElem hi;have ha':m.2.2.2.2.2[i]? = some (B7 m)[i]:=ha;have hp:=h.pts _ (List.mem_of_getElem? ha);generalize hq:(B7 m)[i]=q at ha ha' hp;have hj:Ua ((pmacs q).map T4) [44]=some (Cl q):=We (by simp;have:=hp.some;omega) λw hw=>by
   obtain⟨x,hx,rfl⟩:=List.mem_map.1 hw;have:=(hp.macs x hx).2.2.1;omega
  have hb:=Wf hp.line (t:=t++((((B7 m).take i).map R8).map J1).flatten) (by rw [List.length_append];have:=hlen i;omega);have hb:Kf [[112,111,114,116],G4 q.1,G4 q.2.1,G4 q.2.2.1,Cl q,Bq q.2.2.2.2.1,Bq q.2.2.2.2.2] (J7 (t++((((B7 m).take i).map R8).map J1).flatten))=_:=hb;simp only [Rf,D2 ha',A9 ha',A0,A8h hp,hp.id.put,hp.sw.put,hp.sp.put,hj,hp.a4.put,hp.a6.put,hb];rw [E8 ha (by omega),P1 ha,List.map_append,List.flatten_append];simp) (by
  have:decide (((B7 m).length)<(m.2.2.2.2.2.length:Int))=false:=Dg (B7 m);simp only [Rf,this,Bool.false_eq_true,if_false,List.take_length])
 simp_all
theorem B62 (h:J4 d):f64 d pw R5=some (Af d):=by
 have hf:=h.few;have hs:=h.ls;have hlm:=h.lm;have e4:d.1=lan4:=h.lan4;have e6:d.2.1=lan6:=h.lan6;have h4:=Zr 0;have h6:=Zs 0;simp   at h4 h6;have htop:=B35 (h.lineOk [Du,l4,l6] (List.mem_cons_self ..));have htop:B0s [[108,97,110],l4,l6]=some (J7 (J1 [Du,l4,l6])):=htop;have hl0:=(h.lineOk [Du,l4,l6] (List.mem_cons_self ..)).len;have hpre:∀ i,(((((ow d).take i).map Jk).flatten).map J1).flatten.length<=600*21:=λi=>by
  have h1:=Ef (ls:=(((ow d).take i).map Jk).flatten) λws hw=>by
   refine h.lineOk ws (List.mem_cons_of_mem _ ?_);obtain⟨l,hl,hw⟩:=List.mem_flatten.1 hw;obtain⟨x,hx,rfl⟩:=List.mem_map.1 hl;exact List.mem_flatten.2 ⟨_,List.mem_map.2 ⟨x,List.mem_of_mem_take hx,rfl⟩,hw⟩
  have h2:=Mx h (l:=(ow d).take i) λx hx=>List.mem_of_mem_take hx;have h3:((ow d).take i).length<=7:=by rw [List.length_take,Zu];omega
  omega
 have loop:=C7 (tb:=Rg d pw R5 (A8 d)) (x:=J7 (Af d)) (λi=>((i),J7 (J1 [Du,l4,l6]++((((ow d).take i).map Jk).flatten.map J1).flatten))) (A8 d).length (by omega) (λi hi=>by
  have ha:=List.getElem?_eq_getElem hi;generalize hq:(A8 d)[i]=m at ha;have hmem:=List.mem_of_getElem? ha;have ho:=h.ownT m hmem;have hfew:=(h.own m hmem).few;have how:=B9i ha;have hb:=hpre i;have key:∀ word ,Y4 word->(ow d)[i]? = some (word,m) ->
    ((Kf [word,G4 m.1,m.2.1,X2 m.2.2.1,G4 m.2.2.2.1,G4 m.2.2.2.2.1] (J7 (J1 [Du,l4,l6]++((((ow d).take i).map Jk).flatten.map J1).flatten))).bind λx13=>(loopF (Rf pw R5 m) (0,x13)).bind λx30=>some (Sum.inr (w64 ((i)+1),x30)):Option ((List Int)⊕(Int×(List Int)))) =
    some (.inr (((i+1)),J7 (J1 [Du,l4,l6]++((((ow d).take (i+1)).map Jk).flatten.map J1).flatten))):=λword hw hat=>by
   have h1:=Wf (ho.line hw) (t:=J1 [Du,l4,l6]++((((ow d).take i).map Jk).flatten.map J1).flatten) (by rw [List.length_append];omega);have h1:Kf [word,G4 m.1,m.2.1,X2 m.2.2.1,G4 m.2.2.2.1,G4 m.2.2.2.2.1] _=_:=h1;have hll:=(ho.line hw).len;rw [h1,A0,A8i ho hfew.2 (by simp only [List.length_append];omega),A0,E8 ha (by omega),Ee hat];simp [Jk]
  by_cases hlt:i<d.2.2.1.length
  ·rw [if_pos hlt] at how;have hd:decide ((i:Int)<(d.2.2.1.length:Int))=true:=decide_eq_true (by omega);have:=key W7 (Dh (.inl rfl)) how;simp only [Rg,D2 ha,if_true,A9 ha,A0,P9,ho.asn.put,ho.set.2.1,ho.m4.put,ho.m6.put,hd];exact this
  ·rw [if_neg hlt] at how;have hd:decide ((i:Int)<(d.2.2.1.length:Int))=false:=decide_eq_false (by omega);have:=key T1 (Dh (.inr rfl)) how;simp only [Rg,D2 ha,if_true,A9 ha,A0,P9,ho.asn.put,ho.set.2.1,ho.m4.put,ho.m6.put,hd,Bool.false_eq_true,if_false];exact this) (by
  simp only [Rg,Dg,Bool.false_eq_true,if_false];rw [<- Zu,List.take_length];simp [Af,I2])
 have loop:loopF (Rg d pw R5 (A8 d)) (0,J7 (J1 [Du,l4,l6]))=some (J7 (Af d)):=by
  have:=loop;simp only [List.take_zero,List.map_nil,List.flatten_nil,List.append_nil] at this;exact this
 have hne:(((J7 (Af d)).length:Int) != 0)=true:=by
  rw [A2p];have:1<=(Af d).length:=by
   simp only [Af,I2,List.map_cons,List.flatten_cons,List.length_append,J1,List.length_cons,List.length_nil];omega
  exact bne_iff_ne.2 (by omega)
 have h122:B44 (J7 (Af d))=some (Af d):=by
  simp only [B44,hne,B34];simp [Vc.chk]
 simp only [f64,e4,e6,h4.2.1,h6.2.1,A0,htop,Cd (show d.2.2.1.length<=1000 by omega) (show d.2.2.2.length<=1000 by omega),loop,h122]
theorem B63 (h:J4 d):f31 d pw R5=some (Af d,0):=by
 simp  [f31,Zq h,B62 h]
end Go.Top
namespace Go.Top
open Go Go.Vc Go.Lib
variable {m:A2} {p:B1}
def U4 (m:A2) (ps:List B1):A2:=(m.1,m.2.1,m.2.2.1,m.2.2.2.1,m.2.2.2.2.1,ps)
def N6 (l:List A2):List A2:=G9 (λm=>U4 m []) l
def L4:List A2->List B1
 | []=>[]
 | [m]=>B7 m
 | _ :: m :: l=>L4 (m :: l)
def Uj (l:List A2) (p:B1):List A2:=G9 (λm=>U4 m (B7 m++[p])) l
theorem Q0 {α:Type} {f:α->α} {q:α}:∀ l:List α,G9 f (l++[q])=l++[f q]
 | []=>rfl
 | [y]=>rfl
 | y :: z :: l=>by
  have:=Q0 (f:=f) (q:=q) (z :: l);simp  [G9] at this ⊢;omega
theorem Q1 (l:List A2) (m:A2):L4 (l++[m])=B7 m:=by
 induction l with
 | nil=>rfl
 | cons x l ih =>
  cases l with
  | nil=>rfl
  | cons y l=>exact ih
theorem Ce {α:Type} (l:List α):l=[]∨∃ l' x,l=l'++[x]:=by
 cases hl:l.reverse<;>simp_all
theorem Fi (l:List A2):G9 (λz:A2=>(z.1,z.2.1,z.2.2.1,z.2.2.2.1,z.2.2.2.2.1,L4 l)) (N6 l)=l:=by
 rcases Ce l with rfl | ⟨l',m,rfl⟩
 ·rfl
 ·rw [N6,Q0,Q0,Q1];rfl
theorem A8j (l:List A2):(N6 l).length=l.length:=Dz l
def enc (s:List A2×List A2):Bool×(Bool×(Int×(Int×((List A2)×((List A2)×((List B1)×(List B1))))))) :=
 (!(s.1.isEmpty&&s.2.isEmpty),!s.2.isEmpty,(if s.2.isEmpty then 0 else ((s.2.length-1:Nat):Int)),(if s.2.isEmpty && !s.1.isEmpty then ((s.1.length-1:Nat):Int) else 0),N6 s.1,N6 s.2,L4 s.1,L4 s.2)
inductive Ins
 | srv (m:A2)
 | mem (m:A2)
 | port (p:B1)
def Ins.words:Ins->List (List UInt8)
 | .srv m=>Ae W7 m
 | .mem m=>Ae T1 m
 | .port p=>R8 p
def Ins.app:Ins->List A2×List A2->List A2×List A2
 | .srv m,s=>(s.1++[U4 m []],s.2)
 | .mem m,s=>(s.1,s.2++[U4 m []])
 | .port p,s=>if s.2.isEmpty then (Uj s.1 p,s.2) else (s.1,Uj s.2 p)
def Ins.ok:Ins->List A2×List A2->Prop
 | .srv m,s=>Oo m∧s.2=[]∧s.1.length<=10
 | .mem m,s=>Oo m∧s.2.length<=10
 | .port p,s=>Dt p∧(s.1≠[]∨s.2≠[])∧(L4 s.1).length<=10∧(L4 s.2).length<=10
inductive Ep:List Ins->List A2×List A2->List A2×List A2->Prop
 | nil (s):Ep [] s s
 | cons {i:Ins} {l:List Ins} {s t}:i.ok s->Ep l (i.app s) t->Ep (i :: l) s t
theorem Ep.app {l l':List Ins} {s t u} (h:Ep l s t) (k:Ep l' t u):Ep (l++l') s u:=by
 induction h with
 | nil=>exact k
 | cons h1 _ ih=>exact .cons h1 (ih k)
theorem Q2 {w:List UInt8} {ws:List (List UInt8)} (h:1<=w.length) (b:Bool):f66 (w :: ws) b=some (w,ws,b):=by
 have h1:(((w :: ws).length)==0)=false:=by
  rfl
 have h2:(w==([]))=false:=by
  rw [beq_eq_false_iff_ne];intro e;simp_all
 have h3:leT 1 (w :: ws).length=true:=by rfl
 simp only [f66,show idx (w :: ws) 0=some w from rfl,A0,h2];rfl
theorem Y7 {n:Int} (h:Eu n) (ws:List (List UInt8)):Ue (G4 n :: ws) false pw=some (n,ws,false):=by
 have a1:decide (n<0)=false:=decide_eq_false (by have:=h.lo;omega);have a2:decide (1099511627776<n)=false:=decide_eq_false (by have:=h.hi;omega);simp only [Ue,Q2 h.tok.lo,A0,h.get,Bool.false_eq_true,if_false,a1,a2,h.put,beq_self_eq_true,Bool.not_true]
theorem B37 (h:Oo m) (ws:List (List UInt8)):Xk (X2 m.2.2.1 :: ws) false=some (m.2.2.1,ws,false):=by
 simp only [Xk,Q2 h.set.1.lo,A0];rcases h.set.2.2 with ⟨e1,e2⟩ | ⟨e1,e2⟩<;>simp_all
theorem Wg (h:Oo m):B0v [G4 m.1,m.2.1,X2 m.2.2.1,G4 m.2.2.2.1,G4 m.2.2.2.2.1] false pw=some ([],false,m.1,m.2.1,m.2.2.1,m.2.2.2.1,m.2.2.2.2.1):=by
 simp  [B0v,Y7 h.asn,Q2 h.name.lo,B37 h,Y7 h.m4,Y7 h.m6]
theorem B4t {a:Addr} (h:A6e a) (m:Int) (ws:List (List UInt8)):B0w (Bq a :: ws) false m pw R5=some (ws,false,a):=by
 have hne:(Bq a==([]))=false:=beq_eq_false_iff_ne.2 λe=>by have:=h.tok.lo;simp_all
 rcases h.get with ⟨e1,e2⟩ | ⟨e1,e2⟩
 ·have:Xk (Bq a :: ws) false=some ([],ws,false):=by
   simp  [e2];rfl
  rw [e1];rfl
 ·have h45:=beq_eq_false_iff_ne.2 e1;have:Xk (Bq a :: ws) false=some (Bq a,ws,false):=by
   simp only [Xk,Q2 h.tok.lo,A0,h45,Bool.false_eq_true,if_false]
  simp only [B0w,this,A0,hne,Bool.false_eq_true,if_false,e2 m,show((0:Int) != 0)=false from rfl,h.put,beq_self_eq_true,Bool.not_true]
theorem Eg {s:List UInt8} {c:UInt8} (h:s.length<=100000):f65 s [c]=some (N5 c s):=by
 show Nx s [c]=_;exact B5 (decide_eq_true (by omega))
theorem B38 (h:Dt p):loopF (Og ((pmacs p).map T4)) (0,false,[])=some (false,pmacs p):=by
 have hs:=h.some;have:=C7 (tb:=Og ((pmacs p).map T4)) (x:=(false,pmacs p)) (λi=>((i),false,(pmacs p).take i)) (pmacs p).length (by omega) (λi hi=>by
  have ha:=List.getElem?_eq_getElem hi;have ha':((pmacs p).map T4)[i]? = some (T4 (pmacs p)[i]):=by simp_all
  have hm:=(h.macs _ (List.mem_of_getElem? ha)).2.2.2.2;simp only [Og,D2 ha',A9 ha',A0,hm,P9,Bool.false_eq_true,if_false];rw [B5 (I1 (show((pmacs p).take i++[(pmacs p)[i]]).length<=4294967296 by simp;omega)),E8 ha (by omega),List.take_add_one,ha];rfl) (by
  have:decide (((pmacs p).length)<(((pmacs p).map T4).length:Int))=false:=by simp
  simp  [Og,List.take_length])
 simp_all
theorem A2s (h:Dt p) (m:Int):B0x [G4 p.1,G4 p.2.1,G4 p.2.2.1,Cl p,Bq p.2.2.2.2.1,Bq p.2.2.2.2.2] false m pw R5=some ([],false,p):=by
 have hs:f65 (Cl p) [44]=some ((pmacs p).map T4):=by
  rw [Eg (by have:=h.macsTok.hi;omega)];have hne:(pmacs p).map T4≠[]:=λe=>by rw [List.map_eq_nil_iff] at e;have:=h.some.1;simp_all
  exact congrArg some (Fh hne λw hw=>by
   obtain⟨x,hx,rfl⟩:=List.mem_map.1 hw;exact(h.macs x hx).2.1)
 simp  [B0x,Y7 h.id,Y7 h.sw,Y7 h.sp,Q2 h.macsTok.lo,hs,B38 h,B4t h.a4,B4t h.a6];rfl
theorem Sn:f68 [] false=some true:=rfl
end Go.Top
namespace Go.Top
open Go Go.Vc Go.Lib
variable {i:Ins} {l:List A2}
theorem Ins.line {i:Ins} {s} (h:i.ok s):R7 i.words:=by
 cases i with
 | srv m=>exact h.1.line (Dh (.inl rfl))
 | mem m=>exact h.1.line (Dh (.inr rfl))
 | port p=>exact h.1.line
theorem Zv {s} (h:i.ok s):f65 (Go.Lib.join i.words [32]) [32]=some i.words:=by
 have hl:=i.line h;have h1:=hl.len;rw [Eg (by
  have:(J1 i.words).length=(Go.Lib.join i.words [32]).length+1:=by simp [J1]
  omega)]
 exact congrArg some hl.split
theorem A2t {m:A2} (hl:l.length<=10) :
  Vc.chk ((decide (0<((([(m.1,m.2.1,m.2.2.1,m.2.2.2.1,m.2.2.2.2.1,([]:List B1))]:List A2).length:Nat):Int)))&&(decide (((G9 (λz:A2=>(z.1,z.2.1,z.2.2.1,z.2.2.2.1,z.2.2.2.2.1,L4 l)) (N6 l))++([(m.1,m.2.1,m.2.2.1,m.2.2.2.1,m.2.2.2.2.1,([]:List B1))]:List A2)).length<=LIM)))
   ((idx ((G9 (λz:A2=>(z.1,z.2.1,z.2.2.1,z.2.2.2.1,z.2.2.2.2.1,L4 l)) (N6 l))++([(m.1,m.2.1,m.2.2.1,m.2.2.2.1,m.2.2.2.2.1,([]:List B1))]:List A2)) (w64 ((((G9 (λz:A2=>(z.1,z.2.1,z.2.2.1,z.2.2.2.1,z.2.2.2.2.1,L4 l)) (N6 l))++([(m.1,m.2.1,m.2.2.1,m.2.2.2.1,m.2.2.2.2.1,([]:List B1))]:List A2)).length:Int)-1))).bind λ_ =>
    some ((w64 ((((G9 (λz:A2=>(z.1,z.2.1,z.2.2.1,z.2.2.2.1,z.2.2.2.2.1,L4 l)) (N6 l))++([(m.1,m.2.1,m.2.2.1,m.2.2.2.1,m.2.2.2.2.1,([]:List B1))]:List A2)).length:Int)-1)),((G9 (λz:A2=>(z.1,z.2.1,z.2.2.1,z.2.2.2.1,z.2.2.2.2.1,L4 l)) (N6 l))++([(m.1,m.2.1,m.2.2.1,m.2.2.2.1,m.2.2.2.2.1,([]:List B1))]:List A2)))) =
   some (((l.length:Nat):Int),l++[U4 m []]):=by
 rw [Fi];have e:([(m.1,m.2.1,m.2.2.1,m.2.2.2.1,m.2.2.2.2.1,([]))])=[U4 m []]:=rfl;rw [e];have hlen:(l++[U4 m []]).length=l.length+1:=by simp
 have hw:w64 (((l++[U4 m []]).length)-1)=((l.length)):=by rw [hlen,F8 (by omega) (by omega)];omega
 rw [hw,A9 (k:=l.length) (x:=U4 m []) (by simp),B5 (by rw [I1 (by omega)];rfl)];rfl
theorem Qo (l:List A2) (m:A2):N6 (l++[U4 m []])=l++[U4 m []]:=by
 rw [N6,Q0];rfl
theorem Gu {α:Type} {l:List α} (h:l≠[]):l.isEmpty=false:=by simp [*]
theorem Gv (l:List A2) (m:A2) (p:B1):Uj (l++[m]) p=l++[U4 m (B7 m++[p])]:=by rw [Uj,Q0]
theorem Wh (l:List A2) (p:B1):N6 (Uj l p)=N6 l:=by
 rcases Ce l with rfl | ⟨l',m,rfl⟩
 ·rfl
 ·rw [Gv,N6,N6,Q0,Q0];rfl
theorem Qp (h:l≠[]) (p:B1):L4 (Uj l p)=L4 l++[p]:=by
 rcases Ce l with rfl | ⟨l',m,rfl⟩
 ·simp_all
 ·rw [Gv,Q1,Q1];rfl
theorem So (l:List A2) (p:B1):(Uj l p).length=l.length:=Dz l
theorem Qq (l:List A2) (p:B1):(Uj l p).isEmpty=l.isEmpty:=by
 have:=So l p;cases l with
 | nil=>rfl
 | cons x l=>cases h:Uj (x :: l) p<;>simp_all
theorem Qr (h:l≠[]):decide ((List.drop (Int.toNat ((l.length-1:Nat):Int)) (N6 l)).length=([(0,[],[],0,0,[])]:List A2).length)=true:=by
 refine decide_eq_true ?_;have h1:1<=l.length:=by cases l<;>simp at h ⊢
 simp  [A8j,List.length_nil];omega
theorem B39 {s:List A2×List A2} (h:i.ok s) (m:Int) :
  B48 (Go.Lib.join i.words [32]) lan4 lan6 (enc s).1 (enc s).2.1 (enc s).2.2.1 (enc s).2.2.2.1 m pw R5 (enc s).2.2.2.2.1 (enc s).2.2.2.2.2.1 (enc s).2.2.2.2.2.2.1 (enc s).2.2.2.2.2.2.2=some (true,enc (i.app s)):=by
 obtain⟨S,M⟩:=s;have hsp:=Zv h;unfold B48;rw [hsp,A0];cases i with
 | srv q =>
  obtain⟨ho,hM,hS⟩:=h;subst hM;have e1:=Q2 (w:=W7) (ws:=[G4 q.1,q.2.1,X2 q.2.2.1,G4 q.2.2.2.1,G4 q.2.2.2.2.1]) (by decide) false;show((f66 (Ae W7 q) false).bind _)=_;rw [show f66 (Ae W7 q) false=_ from e1,A0];have hadd:B0y q.1 q.2.1 q.2.2.1 q.2.2.2.1 q.2.2.2.2.1 lan4 lan6 (enc (S,[])).1 (enc (S,[])).2.1 (enc (S,[])).2.2.1 (enc (S,[])).2.2.2.1 (N6 S) (N6 []) (L4 S) (L4 [])=some (((S.length):Int),S++[U4 q []]):=by
   exact A2t hS
  have hemp:(S++[U4 q []]).isEmpty=false:=Gu (by simp);have hlen:(S++[U4 q []]).length-1=S.length:=by simp
  simp  [Wg ho,show(enc (S,([]))).2.2.2.2.1=N6 S from rfl,show(enc (S,([]))).2.2.2.2.2.1=N6 [] from rfl,show(enc (S,([]))).2.2.2.2.2.2.1=L4 S from rfl,show(enc (S,([]))).2.2.2.2.2.2.2=L4 [] from rfl,hadd];simp  [Ins.app,enc,hemp,Qo,Q1];rfl
 | mem q =>
  obtain⟨ho,hM⟩:=h;have e1:=Q2 (w:=T1) (ws:=[G4 q.1,q.2.1,X2 q.2.2.1,G4 q.2.2.2.1,G4 q.2.2.2.2.1]) (by decide) false;show((f66 (Ae T1 q) false).bind _)=_;rw [show f66 (Ae T1 q) false=_ from e1,A0];have hadd:B0z q.1 q.2.1 q.2.2.1 q.2.2.2.1 q.2.2.2.2.1 lan4 lan6 (enc (S,M)).1 (enc (S,M)).2.1 (enc (S,M)).2.2.1 (enc (S,M)).2.2.2.1 (N6 S) (N6 M) (L4 S) (L4 M)=some (((M.length):Int),M++[U4 q []]):=by
   exact A2t hM
  have hemp:(M++[U4 q []]).isEmpty=false:=Gu (by simp);have hlen:(M++[U4 q []]).length-1=M.length:=by simp
  simp only [P9,show((T1:List UInt8)==([115,101,114,118,101,114]:List UInt8))=false from rfl,show((T1:List UInt8)==([109,101,109,98,101,114]:List UInt8))=true from rfl,Bool.false_eq_true,if_false,if_true,Wg ho,A0,
   show(enc (S,M)).2.2.2.2.1=N6 S from rfl,show(enc (S,M)).2.2.2.2.2.1=N6 M from rfl,show(enc (S,M)).2.2.2.2.2.2.1=L4 S from rfl,show(enc (S,M)).2.2.2.2.2.2.2=L4 M from rfl,hadd,Sn]
  simp only [Ins.app,enc,hemp,hlen,Qo,Q1,Bool.and_false,Bool.not_false,Bool.false_and,Bool.false_eq_true,if_false];rfl
 | port p =>
  obtain⟨hp,hne,hl1,hl2⟩:=h;have hl1:(L4 S).length<=10:=hl1;have hl2:(L4 M).length<=10:=hl2;have e1:=Q2 (w:=Xy) (ws:=[G4 p.1,G4 p.2.1,G4 p.2.2.1,Cl p,Bq p.2.2.2.2.1,Bq p.2.2.2.2.2]) (by decide) false;show((f66 (R8 p) false).bind _)=_;rw [show f66 (R8 p) false=_ from e1,A0];have w1:((Xy:List UInt8)==([115,101,114,118,101,114]:List UInt8))=false:=rfl;have w2:((Xy:List UInt8)==([109,101,109,98,101,114]:List UInt8))=false:=rfl;have w3:((Xy:List UInt8)==([112,111,114,116]:List UInt8))=true:=rfl
  by_cases hM:M=[]
  ·subst hM;have hS:S≠[]:=by
    rcases hne with h | h
    ·exact h
    ·exact absurd rfl h
   have hSe:=Gu hS;have hd:=Qr hS;have hlim:decide ((L4 S++[p]).length<=LIM)=true:=I1 (by simp;omega);simp only [P9,w1,w2,w3,Bool.false_eq_true,if_false,if_true,enc,hSe,List.isEmpty_nil,Bool.and_true,Bool.not_false,Bool.not_true,Bool.true_and,B5 hd,A2s hp,A0,B5 hlim,Sn];simp only [Ins.app,List.isEmpty_nil,if_true,Qq,hSe,So,Wh,Qp hS,Bool.and_true,Bool.not_false,Bool.not_true,Bool.true_and]
  ·have hMe:=Gu hM;have hd:=Qr hM;have hlim:decide ((L4 M++[p]).length<=LIM)=true:=I1 (by simp;omega);simp only [P9,w1,w2,w3,Bool.false_eq_true,if_false,if_true,enc,hMe,Bool.and_false,Bool.not_false,Bool.false_and,B5 hd,A2s hp,A0,B5 hlim,Sn];simp only [Ins.app,hMe,Bool.false_eq_true,if_false,Qq,So,Wh,Qp hM,Bool.and_false,Bool.not_false,Bool.false_and]
end Go.Top
namespace Go.Top
open Go Go.Vc Go.Lib
def A6f (srv:Bool) (m:A2):List Ins:=(if srv then Ins.srv m else Ins.mem m) :: (B7 m).map Ins.port
def Kg (d:A6):List Ins:=(d.2.2.1.map (A6f true)).flatten++(d.2.2.2.map (A6f false)).flatten
theorem Qs (d:A6):((ow d).map Jk).flatten=(Kg d).map Ins.words:=by
 have key:∀ (b:Bool) (w:List UInt8),(w=if b then W7 else T1)->∀ l:List A2,((l.map λm=>(w,m)).map Jk).flatten=((l.map (A6f b)).flatten).map Ins.words:=λb w hw l=>by
  subst hw;induction l with
  | nil=>rfl
  | cons m l ih =>
   simp only [List.map_cons,List.flatten_cons,ih];cases b<;>simp [Jk,A6f,Ins.words]
 unfold ow Kg;simp_all
theorem Fj {m:A2}:∀ (ps done:List B1),(∀ p∈ps,Dt p)->done.length+ps.length<=10 ->
  (∀ S,Ep (ps.map Ins.port) (S++[U4 m done],[]) (S++[U4 m (done++ps)],[]))∧(∀ S M,(L4 S).length<=10->Ep (ps.map Ins.port) (S,M++[U4 m done]) (S,M++[U4 m (done++ps)]))
 | [],done,_,_=>by rw [List.append_nil];exact⟨λS => .nil _,λS M _ => .nil _⟩
 | p :: ps,done,h,hl=>by
  simp   at hl;obtain⟨i1,i2⟩:=Fj (m:=m) ps (done++[p]) (λq hq=>h q (List.mem_cons_of_mem _ hq)) (by simp;omega);have hp:=h p (List.mem_cons_self ..);have e:done++p :: ps=done++[p]++ps:=by simp
  rw [e];refine⟨λS => .cons (i:=.port p) ⟨hp,.inl (by simp),by rw [Q1];show done.length<=10;omega,Nat.zero_le _⟩ ?_,λS M hS => .cons (i:=.port p) ⟨hp,.inr (by simp),hS,by rw [Q1];show done.length<=10;omega⟩ ?_⟩
  ·have:(Ins.port p).app (S++[U4 m done],[])=(S++[U4 m (done++[p])],[]):=by
    simp  [Ins.app,Gv];rfl
   rw [this];exact i1 S
  ·have:(Ins.port p).app (S,M++[U4 m done])=(S,M++[U4 m (done++[p])]):=by
    have he:(M++[U4 m done]).isEmpty=false:=Gu (by simp);simp  [Ins.app,Gv];rfl
   rw [this];exact i2 S M hS
theorem Wi:∀ (l S:List A2),(∀ m∈l,Oo m∧(B7 m).length<=2)->S.length+l.length<=10->Ep ((l.map (A6f true)).flatten) (S,[]) (S++l,[])
 | [],S,_,_=>by rw [List.append_nil];exact .nil _
 | m :: l,S,h,hl=>by
  simp   at hl;obtain⟨h1,h2⟩:=h m (List.mem_cons_self ..);have ih:=Wi l (S++[m]) (λq hq=>h q (List.mem_cons_of_mem _ hq)) (by simp;omega);have e:S++m :: l=S++[m]++l:=by simp
  rw [e,List.map_cons,List.flatten_cons];refine Ep.app ?_ ih;refine .cons (i:=.srv m) ⟨h1,rfl,by show S.length<=10;omega⟩ ?_;have:=(Fj (m:=m) (B7 m) [] h1.pts (by simp;omega)).1 S;exact this
theorem Wj (S:List A2) (hS:(L4 S).length<=10):∀ (l M:List A2),(∀ m∈l,Oo m∧(B7 m).length<=2)->M.length+l.length<=10->Ep ((l.map (A6f false)).flatten) (S,M) (S,M++l)
 | [],M,_,_=>by rw [List.append_nil];exact .nil _
 | m :: l,M,h,hl=>by
  simp   at hl;obtain⟨h1,h2⟩:=h m (List.mem_cons_self ..);have ih:=Wj S hS l (M++[m]) (λq hq=>h q (List.mem_cons_of_mem _ hq)) (by simp;omega);have e:M++m :: l=M++[m]++l:=by simp
  rw [e,List.map_cons,List.flatten_cons];refine Ep.app ?_ ih;refine .cons (i:=.mem m) ⟨h1,by show M.length<=10;omega⟩ ?_;have:=(Fj (m:=m) (B7 m) [] h1.pts (by simp;omega)).2 S M hS;exact this
theorem J4.runs {d:A6} (h:J4 d):Ep (Kg d) ([],[]) (d.2.2.1,d.2.2.2):=by
 have hs:=h.ls;have hm:=h.lm;have ho:∀ m∈A8 d,Oo m∧(B7 m).length<=2:=λm hm=>⟨h.ownT m hm,(h.own m hm).few.2⟩;have r1:=Wi d.2.2.1 [] (λm hm=>ho m (List.mem_append_left _ hm)) (by simp;omega);have hl:(L4 d.2.2.1).length<=10:=by
  rcases Ce d.2.2.1 with e | ⟨l,m,e⟩
  ·rw [e];exact Nat.zero_le _
  ·have:=(ho m (List.mem_append_left _ (by simp_all))).2;rw [e,Q1];omega
 have r2:=Wj d.2.2.1 hl d.2.2.2 [] (λm hm=>ho m (List.mem_append_right _ hm)) (by simp;omega);exact r1.app r2
theorem A5g {m:Int} {ys:List (List UInt8)} {l:List Ins} {t:List A2×List A2} (hys:ys=l.map λi=>Go.Lib.join i.words [32]) (hl:l.length<=1000) (h:Ep l ([],[]) t) {x5 x6:List (List UInt8)×(Bool×G2)} (h5:x5.2.2=lan4) (h6:x6.2.2=lan6) :
  loopF (Rh m pw R5 x5 x6 ys) (0,enc ([],[]))=some (.inl (enc t)):=by
 obtain⟨x,h1,h2⟩:=Y5 (tb:=Rh m pw R5 x5 x6 ys) (Q:=λx=>x = .inl (enc t))
  (Inv:=λk s=>∃ (i:Nat) (rest:List Ins) (u:List A2×List A2),rest.length=k∧i+k=l.length∧l.drop i=rest∧Ep rest u t∧s=((i:Int),enc u))
  (λk s ⟨i,rest,u,g1,g2,g3,g4,g5⟩=>by
   subst g5;cases g4 with
   | nil=>simp_all
   | @cons a r _ _ hok hr =>
    have hat:=by
     have:=congrArg (λq=>q[0]?) g3;simpa using this
    have hy:ys[i]? = some (Go.Lib.join a.words [32]):=by simp [*]
    refine⟨_,?_,i+1,r,a.app u,by simp_all,by omega,by rw [<- List.drop_drop,g3];rfl,hr,rfl⟩;have hrd:=B39 hok m;simp only [Rh,D2 hy,if_true,A9 hy,A0,h5,h6,hrd,Bool.not_true,Bool.false_eq_true,if_false];rw [K0 (by omega)])
  (λs ⟨i,rest,u,g1,g2,g3,g4,g5⟩=>by
   subst g5;have:=List.eq_nil_of_length_eq_zero g1;subst this;cases g4;have hi:i=ys.length:=by rw [hys,List.length_map];omega
   refine⟨_,?_,rfl⟩;rw [hi];simp  [Rh,if_false])
  (n:=l.length) (by omega) (s:=(0,enc ([],[]))) ⟨0,l,([],[]),rfl,by omega,rfl,h,rfl⟩<;>simp_all
theorem B9j (m:Int) (ws:List (List UInt8)):f67 (l4 :: ws) false m pw R5=some (ws,false,lan4):=by
 have h:=Zr m;simp   at h;obtain⟨h1,h2,h3⟩:=h;simp  [f67,Q2 (Y4.of h1).1.lo,h3,h2,Bool.not_true]
theorem B9k (m:Int) (ws:List (List UInt8)):f67 (l6 :: ws) false m pw R5=some (ws,false,lan6):=by
 have h:=Zs m;simp   at h;obtain⟨h1,h2,h3⟩:=h;simp  [f67,Q2 (Y4.of h1).1.lo,h3,h2,Bool.not_true]
theorem B64 {d:A6} (h:J4 d) (m:Int):f32 (Af d) m pw R5=some (0,d):=by
 obtain⟨ht,hl⟩:=h.text_len;have e4:d.1=lan4:=h.lan4;have e6:d.2.1=lan6:=h.lan6;have hd:d=(lan4,lan6,d.2.2.1,d.2.2.2):=by rw [<- e4,<- e6]
 have hlim:decide (65536<((Af d).length:Int))=false:=decide_eq_false (by omega);have hsp:f65 (Af d) [10]=some ((I2 d).map (λws=>Go.Lib.join ws [32])++[[]]):=by
  rw [Eg (by omega)];exact congrArg some (Kb h.lineOk)
 have hll:((I2 d).map (λws=>Go.Lib.join ws [32])++[[]]).length=(I2 d).length+1:=by simp
 have hw:w64 ((((I2 d).map (λws=>Go.Lib.join ws [32])++[[]]).length)-1)=(((I2 d).length:Nat)):=by rw [hll,F8 (by omega) (by omega)];omega
 have hlast:idx ((I2 d).map (λws=>Go.Lib.join ws [32])++[[]]) (((I2 d).length:Nat):Int)=some []:=A9 (by
  rw [List.getElem?_append_right (by simp)];simp)
 have hfirst:idx ((I2 d).map (λws=>Go.Lib.join ws [32])++[[]]) 0=some (Go.Lib.join [Du,l4,l6] [32]):=A9 (k:=0) rfl;have hl1:=h.lineOk [Du,l4,l6] (List.mem_cons_self ..);have hfs:f65 (Go.Lib.join [Du,l4,l6] [32]) [32]=some [Du,l4,l6]:=by
  have h1:=hl1.len;rw [Eg (by
   have:(J1 [Du,l4,l6]).length=(Go.Lib.join [Du,l4,l6] [32]).length+1:=by simp [J1]
   omega)]
  exact congrArg some hl1.split
 have hnx:=Q2 (w:=Du) (ws:=[l4,l6]) (by decide) false;have hchk:(leT (((I2 d).length:Nat):Int) ((I2 d).map (λws=>Go.Lib.join ws [32])++[[]]).length&&leT 1 (List.take (Int.toNat (((I2 d).length:Nat):Int)) ((I2 d).map (λws=>Go.Lib.join ws [32])++[[]])).length)=true:=by
  have:1<=(I2 d).length:=by simp [I2]
  simp [leT];omega
 have hys:List.drop (Int.toNat 1) (List.take (Int.toNat (((I2 d).length:Nat):Int)) ((I2 d).map (λws=>Go.Lib.join ws [32])++[[]]))=(Kg d).map λi=>Go.Lib.join i.words [32]:=by
  have:List.take (Int.toNat (((I2 d).length:Nat):Int)) ((I2 d).map (λws=>Go.Lib.join ws [32])++[[]])=(I2 d).map (λws=>Go.Lib.join ws [32]):=by
   rw [Int.toNat_natCast,List.take_append_of_le_length (by simp),List.take_of_length_le (by simp)]
  rw [this];show List.drop 1 _=_;rw [I2,Qs,List.map_cons,List.drop_succ_cons,List.drop_zero,List.map_map];rfl
 have hil:(Kg d).length<=1000:=by
  have:(Kg d).length=((Kg d).map Ins.words).length:=by simp
  rw [this,<- Qs];simp only [I2,List.length_cons] at hl;omega
 have loop:=A5g (m:=m) (x5:=([l6],false,lan4)) (x6:=(([]:List (List UInt8)),false,lan6)) rfl hil h.runs rfl rfl;have loop:loopF (Rh m pw R5 ([l6],false,lan4) ([],false,lan6) ((Kg d).map λi=>Go.Lib.join i.words [32])) (0,false,false,0,0,[],[],[],[])=some (.inl (enc (d.2.2.1,d.2.2.2))):=loop;have hc:f63 (lan4,lan6,d.2.2.1,d.2.2.2)=some 0:=by rw [<- hd];exact Zq h
 have c1:=Fi d.2.2.1;have c2:=Fi d.2.2.2;simp only [f32,hlim,Bool.false_eq_true,if_false,hsp,A0,hw,hlast,show(!(([]:List UInt8)==[]))=false from rfl,hfirst,hfs,hnx,B9j,B9k,show(!(Du==([108,97,110]:List UInt8)))=false from rfl,Sn,Bool.not_true,B5 hchk,hys,loop,D1,
  show(enc (d.2.2.1,d.2.2.2)).2.2.2.2.1=N6 d.2.2.1 from rfl,show(enc (d.2.2.1,d.2.2.2)).2.2.2.2.2.1=N6 d.2.2.2 from rfl,show(enc (d.2.2.1,d.2.2.2)).2.2.2.2.2.2.1=L4 d.2.2.1 from rfl,show(enc (d.2.2.1,d.2.2.2)).2.2.2.2.2.2.2=L4 d.2.2.2 from rfl,c1,c2,hc,show((0:Int) != 0)=false from rfl]
 rw [<- hd]
end Go.Top
namespace Go.Top
open Go Go.Vc
variable {d:A6} {l:List B1} {i:Nat}
theorem Hv {α X:Type} {l:List α} (hl:l.length<=100000) {tb:Int->Option (X⊕Int)} {Q:X->Prop} (step:∀ (i:Nat) a,l[i]? = some a->tb (i:Int)=some (.inr (((i+1:Nat):Int)))∨∃ x,tb (i:Int)=some (.inl x)∧Q x) (fin:∃ x,tb (l.length:Int)=some (.inl x)∧Q x):∃ x,loopF tb 0=some x∧Q x:=by
 have key:∀ k i,i+k=l.length->∃ x,K5 tb (k+1) (i)=some x∧Q x:=by
  intro k;induction k with
  | zero =>
   intro i h;have:=by omega
   subst this;obtain⟨x,h1,h2⟩:=fin;exact⟨x,by rw [K5,h1];rfl,h2⟩
  | succ k ih =>
   intro i h;rcases step i _ (List.getElem?_eq_getElem (show i<l.length by omega)) with h1 | ⟨x,h1,h2⟩
   ·obtain⟨x,h3,h4⟩:=ih (i+1) (by omega);exact⟨x,by rw [K5,h1];exact h3,h4⟩
   ·exact⟨x,by rw [K5,h1];rfl,h2⟩
 obtain⟨x,h1,h2⟩:=key l.length 0 (by omega);exact⟨x,M5 (by omega) h1,h2⟩
theorem A2u {ms:List MAC} (h:1<=ms.length) (h2:ms.length<=100):A1b ms=some ms:=by
 unfold A1b;rw [if_pos (decide_eq_true (by omega)),B5 (I1 (by simp;omega)),List.nil_append]
theorem B3a {ms:List B1} (h:1<=ms.length) (h2:ms.length<=100):B49 ms=some ms:=by
 unfold B49;rw [if_pos (decide_eq_true (by omega)),B5 (I1 (by simp;omega)),List.nil_append]
theorem A8k {α:Type} {l:List α} {a:α} (h:l[i]? = some a):l.set i a=l:=by
 obtain⟨hi,he⟩:=List.getElem?_eq_some_iff.1 h;rw [<- he];exact List.set_getElem_self ..
theorem Row.pmacs {l:List B1} (h:Row l) {i:Nat} {p:B1} (hi:l[i]? = some p):1<=(Top.pmacs p).length∧(Top.pmacs p).length<=2:=by
 rcases K9 (h.2 i p hi) with e | e<;>rw [e]<;>simp
theorem B3b (h:Row l) (h1:1<=l.length):B4a (0,[],[],0,0,l)=some (l,0,[],[],0,0):=by
 have hl:=h.1;have loop:=C7 (tb:=Oh l) (x:=l) (λi=>((i),l)) l.length (by omega) (λi hi=>by
  have ha:=List.getElem?_eq_getElem hi;generalize hq:l[i]=p at ha;have hm:=h.pmacs ha;have hc:A1b p.2.2.2.1=some p.2.2.2.1:=A2u hm.1 (by have:(Top.pmacs p).length=p.2.2.2.1.length:=rfl;omega);have hs:List.set l (Int.toNat (i)) (p.1,p.2.1,p.2.2.1,p.2.2.2.1,p.2.2.2.2)=l:=by exact A8k ha
  simp only [Oh,D2 ha,A9 ha,A0,hc,hs,E8 ha (by omega),Bool.and_self];rfl) (by
  simp  [Oh,if_false])
 have loop:loopF (Oh l) (0,l)=some l:=loop;simp  [B4a,B3a h1 (by omega),loop]
theorem Row.lt (h:Row l) {p q:B1} (hp:l[i]? = some p) (hq:l[i+1]? = some q):p.1<q.1:=by
 obtain⟨o,ho,e1⟩:=Mr (h.2 i p hp);obtain⟨o',ho',e2⟩:=Mr (h.2 (i+1) q hq)<;>omega
theorem B3c {a b:Int} (h:b<a):Uf a b=some 1:=by
 have h1:decide (a<b)=false:=decide_eq_false (by omega);have h2:=decide_eq_true h;have h3:∀ x ,A1c x=some false:=λx=>by simp [A1c]
 simp  [Uf,h3,h1,h2]
theorem Wk {l:List B1} (h:Row l) {i:Nat} (h1:1<=i) (hi:i<l.length):Ug 0 ((i:Int),l)=some (.inl l):=by
 obtain⟨k,rfl⟩:∃ k,i=k+1:=⟨i-1,by omega⟩;have hl:=h.1;have hp:=List.getElem?_eq_getElem (show k<l.length by omega);have hq:=List.getElem?_eq_getElem hi;have hlt:=h.lt hp hq;have hw:w64 (((k+1:Nat))-1)=(k):=by rw [F8 (by omega) (by omega)];omega
 have hc:B4b l[k+1] l[k]=some 1:=by simp  [B4b,B3c hlt]
 have h0:decide (0<((k+1:Nat):Int))=true:=decide_eq_true (by omega);simp only [Ug,h0,if_true,A9 hq,A0,hw,A9 hp,hc,show decide ((1:Int)<0)=false from rfl,Bool.false_eq_true,if_false]
theorem B3d (h:Row l):B10 0 (l.length:Int) l=some l:=by
 have hl:=h.1;have loop:loopF (Jh 0 (l.length)) (1,l)=some l:=by
  by_cases h0:l.length=0
  ·refine M5 (n:=1) (by simp) ?_;have:decide ((1)<(l.length:Int))=false:=decide_eq_false (by omega);simp  [K5,Jh,this,A0]
  ·have:=C7 (tb:=Jh 0 (l.length)) (x:=l) (λi=>(((i+1:Nat)),l)) (l.length-1) (by omega) (λi hi=>by
    have hlt:decide (((i+1:Nat))<(l.length:Int))=true:=decide_eq_true (by omega);have hs:=Wk h (i:=i+1) (by omega) (by omega);have hin:loopF (Ug 0) (((i+1:Nat)),l)=some l:=M5 (n:=1) (by simp) (by rw [K5,hs];rfl);simp only [Jh,hlt,if_true,hin,A0,K0 (show i+1<=4611686018427387904 by omega)]) (by
    have:decide (((l.length-1+1:Nat))<(l.length:Int))=false:=decide_eq_false (by omega);simp only [Jh,this,Bool.false_eq_true,if_false])
   omega
 simp only [B10,show w64 (0+1)=1 from rfl,loop,A0]
theorem B3e (h:Row l):B4c l=some l:=by
 have hl:=h.1;have l0:loopF (A1d (l.length)) (0,20,l)=some (0,l):=M5 (n:=1) (by simp) (by
  have:decide ((20)<=(l.length:Int))=false:=decide_eq_false (by omega);simp  [K5,A1d,this,A0])
 have l1:loopF (A1e (l.length)) 20=some ():=M5 (n:=1) (by simp) (by
  have:decide ((20)<(l.length:Int))=false:=decide_eq_false (by omega);simp  [K5,A1e,this,A0])
 simp  [B4c,B84,l0,B3d h,l1];rfl
theorem A8l (h:J4 d):f70 d=some (D9 (A8 d)):=by
 have hf:=h.few;have hs:=h.ls;have hm:=h.lm;have hr:=h.row;have h1:1<=(D9 (A8 d)).length:=by
  have h2:=hf.2.1
  match ho:A8 d,h2 with
  | m :: l,_ =>
   have:=(h.own m (by simp [*])).few.1;simp  [D9,List.length_append];omega
 simp  [f70,Sm (show d.2.2.1.length<=1000 by omega) (show d.2.2.2.length<=1000 by omega) (by omega),B3b hr h1,B3e hr];rfl
theorem B65 (h:J4 d) (k:Int):∃ a b,f71 d k=some (a,b):=by
 have hf:=h.few;have hs:=h.ls;have hm:=h.lm;obtain⟨x,hx,_⟩:=Hv (l:=A8 d) (by omega) (tb:=Xm k (A8 d)) (Q:=λ_=>True) (λi a ha=>by
  have hfew:=(h.own a (List.mem_of_getElem? ha)).few.2;obtain⟨y,hy,_⟩:=Hv (l:=a.2.2.2.2.2) (by have:a.2.2.2.2.2.length=(B7 a).length:=rfl;omega) (tb:=Xl k a) (Q:=λ_=>True) (λj p hp=>by
   cases he:(p.1==k) with
   | true=>exact .inr ⟨.inr a.1,by simp only [Xl,D2 hp,if_true,A9 hp,A0,he],trivial⟩
   | false=>exact .inl (by simp only [Xl,D2 hp,if_true,A9 hp,A0,he,Bool.false_eq_true,if_false,E8 hp (by have:a.2.2.2.2.2.length=(B7 a).length:=rfl;omega)])) ⟨.inl (),by simp  [Xl,if_false],trivial⟩
  cases y with
  | inl u=>exact .inl (by simp only [Xm,D2 ha,if_true,A9 ha,A0,hy,D1,E8 ha (by omega)])
  | inr v=>exact .inr ⟨.inr v,by simp only [Xm,D2 ha,if_true,A9 ha,A0,hy,D1],trivial⟩) ⟨.inl (),by simp  [Xm,if_false],trivial⟩
 cases x with
 | inl u=>exact⟨0,false,by simp  [f71,Cd (show d.2.2.1.length<=1000 by omega) (show d.2.2.2.length<=1000 by omega),hx,D1]⟩
 | inr v=>exact⟨v,true,by simp  [f71,Cd (show d.2.2.1.length<=1000 by omega) (show d.2.2.2.length<=1000 by omega),hx,D1]⟩
def R9 (a:Addr):List Addr:=if Ty.eqT A5 a F7=true then [] else [a]
theorem A8m (a:Addr):f72 a=some (R9 a):=by
 unfold f72 R9;show(if Ty.eqT A5 a F7=true then _ else _)=_;split<;>rfl
structure W8 (l:List B1) (r:List I4):Prop where
 len:r.length=l.length
 get:∀ (i:Nat) p,l[i]? = some p->∃ a:Int,r[i]? = some (p.1,a,p.2.1,p.2.2.2.1,R9 p.2.2.2.2.1,R9 p.2.2.2.2.2,2,3)
theorem B66 (h:J4 d):∃ r,f33 d 2 3=some (r,0)∧W8 (D9 (A8 d)) r:=by
 have hf:=h.few;generalize hl:D9 (A8 d)=l at hf;obtain⟨r,h1,h2⟩:=Y5 (tb:=A3c d 2 3 l) (Q:=λr=>W8 l r)
  (Inv:=λk s=>∃ (i:Nat) (acc:List I4),i+k=l.length∧acc.length=i∧(∀ (j:Nat) p,j<i->l[j]? = some p->∃ a:Int,acc[j]? = some (p.1,a,p.2.1,p.2.2.2.1,R9 p.2.2.2.2.1,R9 p.2.2.2.2.2,2,3))∧s=((i:Int),acc))
  (λk s ⟨i,acc,g1,g2,g3,g4⟩=>by
   subst g4;have ha:=List.getElem?_eq_getElem (show i<l.length by omega);generalize l[i]=p at ha;obtain⟨a,b,hab⟩:=B65 h p.1;refine⟨_,?_,i+1,acc++[(p.1,a,p.2.1,p.2.2.2.1,R9 p.2.2.2.2.1,R9 p.2.2.2.2.2,2,3)],by omega,by simp [g2],λj q hj hq => ?_,rfl⟩
   ·simp only [A3c,D2 ha,if_true,A9 ha,A0,hab,A8m];have hq:(acc++[((p.1,a,p.2.1,p.2.2.2.1,R9 p.2.2.2.2.1,R9 p.2.2.2.2.2,2,3))]).length<=4294967296:=by simp;omega
    rw [B5 (I1 hq),E8 ha (by omega)]
   ·by_cases hj2:j<i
    ·obtain⟨a',ha'⟩:=g3 j q hj2 hq;exact⟨a',by rw [List.getElem?_append_left (by omega)];omega⟩
    ·have:j=i:=by omega
     subst this;rw [ha] at hq;cases hq;simp [*])
  (λs ⟨i,acc,g1,g2,g3,g4⟩=>by
   subst g4;have hi:i=l.length:=by omega
   refine⟨acc,?_,by omega,λj p hp=>g3 j p (by have:=Hu hp;omega) hp⟩;rw [hi];simp  [A3c,if_false])
  (n:=l.length) (by omega) (s:=(0,[])) ⟨0,[],by omega,rfl,λj p hj _=>by omega,rfl⟩
 refine⟨r,?_,h2⟩;have h70:=A8l h;rw [hl] at h70;simp  [f33,Zq h,h70,h1]
end Go.Top
namespace Go.Top
open Go Go.Vc
theorem A8n:A3l 14 (λ_ p=>B4d p==some false)=true:=by kernel_rfl
end Go.Top
namespace Go.Top
open Go Go.Vc
variable {d:A6} {p:B1} {n:Nat}
theorem Sp {a b c:Int} (h1:b<=a) (h2:a<=c):Bp a b c=some true:=by
 unfold Bp;simp_all
theorem My (h1:d.2.2.1.length<=1000) (h2:d.2.2.2.length<=1000):f77 d=some (A8 d):=by
 unfold f77;rw [B5 (I1 (by omega)),B5 (I1 (by simp;omega))];rfl
theorem J4.len (h:J4 d):d.2.2.1.length<=1000∧d.2.2.2.length<=1000:=by
 have h1:=h.ls;have h2:=h.lm;omega
theorem B67 (h:J4 d):f73 d=some false:=by
 have hf:=h.few;have hs:=h.ls;have hm:=h.lm;have loop:loopF (A3e (A8 d)) 0=some (Sum.inl ()):=I8 (l:=A8 d) (x:=Sum.inl ()) (by omega) (λi a ha=>by
  have ho:=h.own a (List.mem_of_getElem? ha);have hl:1<=a.2.2.2.2.2.length∧a.2.2.2.2.2.length<=2:=ho.few;have hin:loopF (A3d a) 0=some (Sum.inl ()):=I8 (l:=a.2.2.2.2.2) (x:=Sum.inl ()) (by omega) (λj p hp=>by
   obtain⟨n,_,_,hn⟩:=ho.pts p (List.mem_of_getElem? hp);have hmm:Bp (p.2.2.2.1.length) 1 2=some true:=by
    have:pmacs p=p.2.2.2.1:=rfl;rw [<- this];rcases K9 hn with e | e<;>rw [e]<;>rfl
   simp only [A3d,D2 hp,if_true,A9 hp,A0,hmm,Bool.not_true,Bool.false_eq_true,if_false,E8 hp (by omega)]) (by
   simp  [A3d,if_false])
  simp only [A3e,D2 ha,if_true,A9 ha,A0,Sp (show(1)<=(a.2.2.2.2.2.length:Int) by omega) (show(a.2.2.2.2.2.length:Int)<=4 by omega),Bool.not_true,Bool.false_eq_true,if_false,hin,D1,E8 ha (by omega)]) (by
  simp  [A3e,if_false])
 have a1:decide (4<(d.2.2.1.length:Int))=false:=decide_eq_false (by omega);have a2:decide (32<(d.2.2.2.length:Int))=false:=decide_eq_false (by omega);simp  [f73,a1,a2,My h.len.1 h.len.2,loop,D1]
theorem Sr {s:List UInt8} (h:s∈Ad++[[65,83,45,65],[65,83,45,66]]):A68 s=some true:=by
 have:(Ad++[[65,83,45,65],[65,83,45,66]]).all (λs=>A68 s==some true)=true:=by rfl
 exact eq_of_beq (List.all_eq_true.1 this s h)
theorem B3f (hp:L3 n p) (h1:1<=n) (h2:n<=14):B4d p=some false:=eq_of_beq (Mo A8n hp h1 h2)
theorem B9l:B11 lan4=some true:=by rfl
theorem B9m:B11 lan6=some true:=by kernel_rfl
theorem B68 (h:J4 d):f74 d=some false:=by
 have hf:=h.few;have loop:loopF (Xn (A8 d)) 0=some (Sum.inl ()):=I8 (l:=A8 d) (x:=Sum.inl ()) (by omega) (λi a ha=>by
  have ho:=h.own a (List.mem_of_getElem? ha);have hl:1<=a.2.2.2.2.2.length∧a.2.2.2.2.2.length<=2:=ho.few;obtain⟨x,hx,e4⟩:=ho.m4;obtain⟨y,hy,e6⟩:=ho.m6;have a1:=Sp ho.asn.1 (show a.1<=4294967295 from Int.le_trans ho.asn.2 (by simp));have a2:=Sr (List.mem_append_left _ ho.name);have a3:Bp a.2.2.2.1 0 512=some true:=Sp (by omega) (by omega);have a4:Bp a.2.2.2.2.1 0 512=some true:=Sp (by omega) (by omega);have a5:loopF (A3f a) 0=some (Sum.inl ()):=I8 (l:=a.2.2.2.2.2) (x:=Sum.inl ()) (by omega) (λj p hp=>by
   obtain⟨n,n1,n2,hn⟩:=ho.pts p (List.mem_of_getElem? hp);simp only [A3f,D2 hp,if_true,A9 hp,A0,B3f hn n1 n2,Bool.false_eq_true,if_false,E8 hp (by omega)]) (by
   simp  [A3f,if_false])
  have a6:a.2.2.1=[]∨(a.2.2.1==([]))=false∧A68 a.2.2.1=some true:=by
   have hq:=ho.set;simp  [Pc,or_false] at hq;rcases hq with e | e | e
   ·simp_all
   ·exact .inr (by rw [e];exact⟨rfl,Sr (by simp)⟩)
   ·exact .inr (by rw [e];exact⟨rfl,Sr (by simp)⟩)
  have a7:(a.2.2.1==([45]))=false:=by
   have hq:=ho.set;simp  [Pc,or_false] at hq;rcases hq with e | e | e<;>rw [e]<;>rfl
  rcases a6 with a6 | ⟨a6,a8⟩
  ·have a6:(a.2.2.1==([]))=true:=by simp_all
   simp only [Xn,D2 ha,if_true,A9 ha,A0,P9,a1,a2,a3,a4,a5,a6,a7,Bool.not_true,Bool.false_eq_true,if_false,D1,E8 ha (by omega)]
  ·simp only [Xn,D2 ha,if_true,A9 ha,A0,P9,a1,a2,a3,a4,a5,a6,a7,a8,Bool.not_true,Bool.not_false,Bool.false_eq_true,if_false,D1,E8 ha (by omega)]) (by
  simp  [Xn,if_false])
 have e4:d.1=lan4:=h.lan4;have e6:d.2.1=lan6:=h.lan6;have w4:Bp lan4.2 8 30=some true:=rfl;have w6:Bp lan6.2 32 64=some true:=rfl;have b4:lan4.1.1=false:=rfl;have b6:lan6.1.1=true:=rfl;simp  [f74,e4,e6,B9l,B9m,w4,w6,b4,b6,A0,Bool.not_true,Bool.not_false,Bool.false_eq_true,if_false,My h.len.1 h.len.2,loop,D1]
theorem C5x (h1:1<=n) (h2:n<=14):f138 lan4 (F9 n)=some true:=by
 have:(List.range 15).all (λn=>n==0 || f138 lan4 (F9 n)==some true)=true:=by kernel_rfl
 have:=M6 this (show n<15 by omega);simp   at this;rcases this with h | h<;>omega
theorem C5y (h1:1<=n) (h2:n<=14):f138 lan6 (N8 n)=some true:=by
 have:(List.range 15).all (λn=>n==0 || f138 lan6 (N8 n)==some true)=true:=by kernel_rfl
 have:=M6 this (show n<15 by omega);simp   at this;rcases this with h | h<;>omega
theorem B94:B8c lan4=some (false,0,3221226239):=by rfl
theorem B69 (h:J4 d):f75 d=some false:=by
 have hf:=h.few;have e4:d.1=lan4:=h.lan4;have e6:d.2.1=lan6:=h.lan6;have loop:loopF (A3h d (A8 d)) 0=some (Sum.inl ()):=I8 (l:=A8 d) (x:=Sum.inl ()) (by omega) (λi a ha=>by
  have ho:=h.own a (List.mem_of_getElem? ha);have hl:1<=a.2.2.2.2.2.length∧a.2.2.2.2.2.length<=2:=ho.few;have hin:loopF (A3g d a) 0=some (Sum.inl ()):=I8 (l:=a.2.2.2.2.2) (x:=Sum.inl ()) (by omega) (λj p hp=>by
   obtain⟨n,n1,n2,hn⟩:=ho.pts p (List.mem_of_getElem? hp);obtain⟨c1,c2,c3⟩:=A3n n1 n2;obtain⟨c4,c5⟩:=A3o n1 n2;have n4:Hf (F9 n)=some false:=by show some (Ty.eqT A5 (F9 n) F7)=_;rw [Z5 Au]
   have n6:Hf (N8 n)=some false:=by rfl
   have n0:Hf F7=some true:=rfl;rcases Bg hn with ⟨h1,h2⟩ | ⟨h1,h2⟩ | ⟨h1,h2⟩ <;>
   simp only [A3g,D2 hp,if_true,A9 hp,A0,P9,h1,h2,e4,e6,n4,n6,n0,C5x n1 n2,C5y n1 n2,c2,c3,c5,B94,Bool.not_true,Bool.not_false,Bool.false_eq_true,if_false,E8 hp (by omega)]) (by
   simp  [A3g,if_false])
  simp only [A3h,D2 ha,if_true,A9 ha,A0,hin,D1,E8 ha (by omega)]) (by
  simp  [A3h,if_false])
 simp  [f75,My h.len.1 h.len.2,loop,D1]
theorem B9n (h:J4 d):loopF (Xo d) (0,[])=some (Sum.inl (seen (if d.2.2.1.length=0 then [] else [65000]))):=by
 have hs:=h.ls;refine C7 (tb:=Xo d) (λi=>((i),seen (if i=0 then ([]) else [65000]))) d.2.2.1.length (by omega) (λi hi => ?_) ?_
 ·have ha:=List.getElem?_eq_getElem hi;have hasn:=h.srv_asn ha;have h0:0<d.2.2.1.length:=by omega
  have hb:=List.getElem?_eq_getElem h0;have hasn0:=h.srv_asn hb;have hb':idx d.2.2.1 0=some d.2.2.1[0]:=A9 (k:=0) hb;have e2:mput (Ty.eqT (.int .i64)) (seen (if i=0 then ([]) else [65000])) 65000 true=seen [65000]:=by
   cases i with
   | zero=>rfl
   | succ i=>rfl
  simp only [Xo,D2 ha,if_true,A9 ha,A0,hb',hasn,hasn0,show((65000:Int) != 65000)=false from rfl,Bool.false_eq_true,if_false,e2,Nat.add_one_ne_zero,E8 ha (by omega)]
 ·simp  [Xo,if_false]
theorem B9o (h:J4 d):loopF (Xp d) (0,seen (if d.2.2.1.length=0 then [] else [65000]))=some (Sum.inl ()):=by
 have hm:=h.lm;have hn:=h.asns;generalize (if d.2.2.1.length=0 then ([]:List Int) else [65000])=B at hn ⊢;have:=C7 (tb:=Xp d) (x:=Sum.inl ()) (λi=>((i),seen (B++(d.2.2.2.take i).map λm=>m.1))) d.2.2.2.length (by omega) (λi hi=>by
  have ha:=List.getElem?_eq_getElem hi;have hf:=X1 hn ha;simp only [Xp,D2 ha,if_true,A9 ha,A0,H9 Ds hf,Bool.false_eq_true,if_false,I9 Ds hf,E8 ha (by omega),P1 ha,<- List.append_assoc]) (by
  simp  [Xp,if_false])
 simp_all
theorem B9p {B:List MAC} (hn:(B++pmacs p).Nodup) (hl:(pmacs p).length<=100):loopF (Xq p) (0,seen B)=some (Sum.inl (seen (B++pmacs p))):=by
 have hn':(B++(pmacs p).map λx=>x).Nodup:=by simp [*]
 have:=C7 (tb:=Xq p) (x:=Sum.inl (seen (B++pmacs p))) (λi=>((i),seen (B++((pmacs p).take i).map λx=>x))) (pmacs p).length (by omega) (λi hi=>by
  have ha:=List.getElem?_eq_getElem hi;have hf:=X1 (κ:=λx=>x) hn' ha;have ha':p.2.2.2.1[i]? = some (pmacs p)[i]:=ha;simp only [Xq,D2 ha',if_true,A9 ha',A0,H9 On hf,Bool.false_eq_true,if_false,I9 On hf,E8 ha (by omega),P1 (κ:=λx=>x) ha,<- List.append_assoc]) (by
  have:decide (((pmacs p).length)<(p.2.2.2.1.length:Int))=false:=Dg (pmacs p);simp only [Xq,this,Bool.false_eq_true,if_false,List.take_length,List.map_id'])
 simp_all
theorem Ss (a:Addr):Hf a=some (Ty.eqT A5 a F7):=rfl
theorem B9q {m:A2} (hp:∀ p∈B7 m,∃ n,L3 n p) (hfew:(B7 m).length<=2) {Bi:List Int} {Bm:List MAC} {Ba:List Addr} (hi:(Bi++(B7 m).map λp=>p.1).Nodup) (hm:(Bm++((B7 m).map pmacs).flatten).Nodup) (ha:(Ba++((B7 m).map J0).flatten).Nodup) (hz:F7∉Ba) :
  loopF (Oi m) (0,seen Bi,seen Bm,seen Ba)=some (Sum.inl (seen (Bi++(B7 m).map λp=>p.1),seen (Bm++((B7 m).map pmacs).flatten),seen (Ba++((B7 m).map J0).flatten))):=by
 have flat:∀ {β:Type} (κ:B1->List β) (B:List β),(B++((B7 m).map κ).flatten).Nodup->∀ (i:Nat) p,(B7 m)[i]? = some p->(B++(((B7 m).take i).map κ).flatten++κ p).Nodup:=λκ B hB i p hp=>by
  have hl:B7 m=(B7 m).take i++[p]++(B7 m).drop (i+1):=by
   obtain⟨hi,he⟩:=List.getElem?_eq_some_iff.1 hp;rw [List.append_assoc,<- he,List.singleton_append,<- List.drop_eq_getElem_cons hi,List.take_append_drop]
  rw [hl,List.map_append,List.flatten_append,<- List.append_assoc] at hB;have:=(List.nodup_append.1 hB).1;simpa [List.append_assoc] using this
 have:=C7 (tb:=Oi m) (x:=Sum.inl (seen (Bi++(B7 m).map λp=>p.1),seen (Bm++((B7 m).map pmacs).flatten),seen (Ba++((B7 m).map J0).flatten)))
  (λi=>((i),seen (Bi++((B7 m).take i).map λp=>p.1),seen (Bm++(((B7 m).take i).map pmacs).flatten),seen (Ba++(((B7 m).take i).map J0).flatten))) (B7 m).length (by omega) (λi hlt=>by
  have hat:=List.getElem?_eq_getElem hlt;generalize (B7 m)[i]=p at hat;have hat':m.2.2.2.2.2[i]? = some p:=hat;obtain⟨n,hn⟩:=hp p (List.mem_of_getElem? hat);have f1:=X1 hi hat;have f2:=flat pmacs Bm hm i p hat;have f3:=flat J0 Ba ha i p hat;have hml:(pmacs p).length<=100:=by rcases K9 hn with e | e<;>rw [e]<;>simp
  have z0:F7∉Ba++(((B7 m).take i).map J0).flatten:=λhmm=>by
   rcases List.mem_append.1 hmm with hmm | hmm
   ·simp_all
   ·obtain⟨l,hl,hzl⟩:=List.mem_flatten.1 hmm;obtain⟨q,hq,rfl⟩:=List.mem_map.1 hl;obtain⟨n',hn'⟩:=hp q (List.mem_of_mem_take hq);rcases Bh hn' with e | e | e<;>rw [e] at hzl<;>simp at hzl
    ·exact Au hzl.symm
    ·exact Fg hzl.symm
    ·rcases hzl with h | h
     ·exact Au h.symm
     ·exact Fg h.symm
  have e4:Ty.eqT A5 (F9 n) F7=false:=Z5 Au;have e6:Ty.eqT A5 (N8 n) F7=false:=Z5 Fg;have e0:Ty.eqT A5 F7 F7=true:=(R6 _ _).2 rfl;generalize hA:Ba++(((B7 m).take i).map J0).flatten=A at f3 z0;have hA2:Ba++(((B7 m).take (i+1)).map J0).flatten=A++J0 p:=by rw [Ee hat,<- List.append_assoc,hA]
  have hM2:Bm++(((B7 m).take (i+1)).map pmacs).flatten=Bm++(((B7 m).take i).map pmacs).flatten++pmacs p:=by rw [Ee hat,<- List.append_assoc]
  have hI2:Bi++((B7 m).take (i+1)).map (λp=>p.1)=Bi++((B7 m).take i).map (λp=>p.1)++[p.1]:=by rw [P1 hat,<- List.append_assoc]
  have nd:∀ x,x∈J0 p->x∉A:=λx hx hxA=>(List.nodup_append.1 f3).2.2 x hxA x hx rfl;have m4:=B9p f2 hml;have hlt':=D2 hat';have hix:=A9 hat';have hs:=E8 hat (by omega);have pa:J0 p=[F9 n]∧p.2.2.2.2.1=F9 n∧p.2.2.2.2.2=F7∨J0 p=[N8 n]∧p.2.2.2.2.1=F7∧p.2.2.2.2.2=N8 n∨J0 p=[F9 n,N8 n]∧p.2.2.2.2.1=F9 n∧p.2.2.2.2.2=N8 n:=by
   rcases Bg hn with ⟨h1,h2⟩ | ⟨h1,h2⟩ | ⟨h1,h2⟩
   ·exact .inl ⟨by unfold J0;rw [h1,h2];simp [List.filter,e4,e0],h1,h2⟩
   ·exact .inr (.inl ⟨by unfold J0;rw [h1,h2];simp [List.filter,e6,e0],h1,h2⟩)
   ·exact .inr (.inr ⟨by unfold J0;rw [h1,h2];simp [List.filter,e4,e6],h1,h2⟩)
  rw [hA2,hM2,hI2];rcases pa with ⟨h0,h1,h2⟩ | ⟨h0,h1,h2⟩ | ⟨h0,h1,h2⟩
  ·have q4:=nd (F9 n) (by rw [h0];simp);simp only [Oi,hlt',if_true,hix,A0,P9,H9 Ds f1,h1,h2,H9 R6 q4,H9 R6 z0,Bool.false_eq_true,if_false,Ss,e4,e0,Bool.not_true,Bool.not_false,m4,D1,hs,I9 Ds f1,I9 R6 q4,h0]
  ·have q6:=nd (N8 n) (by rw [h0];simp);simp only [Oi,hlt',if_true,hix,A0,P9,H9 Ds f1,h1,h2,H9 R6 q6,H9 R6 z0,Bool.false_eq_true,if_false,Ss,e6,e0,Bool.not_true,Bool.not_false,m4,D1,hs,I9 Ds f1,I9 R6 q6,h0]
  ·have q4:=nd (F9 n) (by rw [h0];simp);have q6:=nd (N8 n) (by rw [h0];simp);have q6':N8 n∉A++[F9 n]:=λhm=>by
    rcases List.mem_append.1 hm with hm | hm
    ·exact q6 hm
    ·exact Gt (List.mem_singleton.1 hm).symm
   simp only [Oi,hlt',if_true,hix,A0,P9,H9 Ds f1,h1,h2,H9 R6 q4,H9 R6 q6,Bool.false_eq_true,if_false,Ss,e4,e6,Bool.not_true,Bool.not_false,m4,D1,hs,I9 Ds f1,I9 R6 q4,I9 R6 q6',h0,List.append_assoc,List.cons_append,List.nil_append]) (by
  have:decide (((B7 m).length:Int)<(m.2.2.2.2.2.length:Int))=false:=Dg (B7 m);simp only [Oi,this,Bool.false_eq_true,if_false,List.take_length])
 simpa using this
end Go.Top
namespace Go.Top
open Go Go.Vc
variable {d:A6}
theorem Mz (ms:List A2) (i:Nat):D9 ms=D9 (ms.take i)++D9 (ms.drop i):=by
 have:=List.take_append_drop i ms
 conv=>lhs;rw [<- this]
 unfold D9;rw [List.map_append,List.flatten_append]
theorem Hw {ms:List A2} {i:Nat} {m:A2} (h:ms[i]? = some m):D9 (ms.take (i+1))=D9 (ms.take i)++B7 m:=by
 rw [show ms.take (i+1)=ms.take i++[m] from by rw [List.take_add_one,h];rfl,Y6]
theorem B9r (h:J4 d):loopF (Xr (A8 d)) (0,[],[],[],[])=some (Sum.inl ()):=by
 have hf:=h.few;have hr:=h.row;have hn:=h.names;have:=C7 (tb:=Xr (A8 d)) (x:=Sum.inl ())
  (λi=>((i),seen (((A8 d).take i).map λm=>m.2.1),seen ((D9 ((A8 d).take i)).map λp=>p.1),seen ((D9 ((A8 d).take i)).map pmacs).flatten,seen ((D9 ((A8 d).take i)).map J0).flatten)) (A8 d).length (by omega) (λi hi=>by
  have ha:=List.getElem?_eq_getElem hi;generalize (A8 d)[i]=m at ha;have hmem:=List.mem_of_getElem? ha;have ho:=h.own m hmem;have hnm:=X1 (B:=[]) (by simpa using hn) ha;rw [List.nil_append] at hnm;have hsp:=Mz (A8 d) (i+1);rw [Hw ha] at hsp;have k1:=hr.ids;have k2:=hr.macs;have k3:=hr.addrs;rw [hsp] at k1 k2 k3;rw [List.map_append] at k1 k2 k3;rw [List.flatten_append] at k2 k3;have k1:=(List.nodup_append.1 k1).1;have k2:=(List.nodup_append.1 k2).1;have k3:=(List.nodup_append.1 k3).1;rw [List.map_append] at k1 k2 k3;rw [List.flatten_append] at k2 k3;have hz:F7∉((D9 ((A8 d).take i)).map J0).flatten:=λhmm=>by
   obtain⟨l,hl,hzl⟩:=List.mem_flatten.1 hmm;obtain⟨q,hq,rfl⟩:=List.mem_map.1 hl;have hq2:q∈D9 (A8 d):=by simp [*]
   obtain⟨j,hj⟩:=List.getElem?_of_mem hq2;have hn':=(h.isPort hj).1;rcases Bh hn' with e | e | e<;>rw [e] at hzl<;>simp at hzl
   ·exact Au hzl.symm
   ·exact Fg hzl.symm
   ·rcases hzl with h | h
    ·exact Au h.symm
    ·exact Fg h.symm
  have inner:=B9q (m:=m) (λp hp=>by obtain⟨n,_,_,hn⟩:=ho.pts p hp;exact⟨n,hn⟩) ho.few.2 k1 k2 k3 hz;simp only [Xr,D2 ha,if_true,A9 ha,A0,H9 A3m hnm,Bool.false_eq_true,if_false,inner,D1,E8 ha (by omega),I9 A3m hnm,P1 ha,Hw ha,List.map_append,List.flatten_append]) (by
  simp  [Xr,if_false])
 exact this
theorem B6a (h:J4 d):f34 d=some 0:=by
 have h76:f76 d=some false:=by simp only [f76,B9n h,A0,D1,B9o h,My h.len.1 h.len.2,B9r h]
 simp  [f34,B67 h,B68 h,B69 h,h76,if_false]
theorem B6b {p:B1} (h:p.2.2.2.1.length<=100):f78 p=some p:=by
 unfold f78;rw [B5 (I1 (by omega))]
theorem B9s {n:Int} {acc0:List B1} {m:A2} (hp:∀ p∈B7 m,∃ k,L3 k p) (hfew:(B7 m).length<=2) {acc:List B1} (ha:acc.length<=1000) :
  loopF (Ri (n,acc0) m) (0,acc)=some (acc++(B7 m).filter λp=>p.1==n):=by
 have:=C7 (tb:=Ri (n,acc0) m) (x:=acc++(B7 m).filter λp=>p.1==n) (λi=>((i),acc++((B7 m).take i).filter λp=>p.1==n)) (B7 m).length (by omega) (λi hi=>by
  have hat:=List.getElem?_eq_getElem hi;generalize (B7 m)[i]=p at hat;have hat':m.2.2.2.2.2[i]? = some p:=hat;obtain⟨k,hk⟩:=hp p (List.mem_of_getElem? hat);have hml:p.2.2.2.1.length<=100:=by
   have:pmacs p=p.2.2.2.1:=rfl;rw [<- this];rcases K9 hk with e | e<;>rw [e]<;>simp
  have ht:(B7 m).take (i+1)=(B7 m).take i++[p]:=by rw [List.take_add_one,hat];rfl
  have hlen:(((B7 m).take i).filter λp=>p.1==n).length<=2:=Nat.le_trans (List.length_filter_le ..) (by rw [List.length_take];omega);have hlt':=D2 hat';have hix:=A9 hat';have hs:=E8 hat (by omega);cases he:(p.1==n) with
  | true =>
   have e:acc++((B7 m).take (i+1)).filter (λp=>p.1==n)=acc++((B7 m).take i).filter (λp=>p.1==n)++[p]:=by
    simp [*]
   rw [e];simp only [Ri,hlt',if_true,hix,A0,he,B6b hml];rw [B5 (I1 (by simp  ;omega)),hs]
  | false =>
   have e:acc++((B7 m).take (i+1)).filter (λp=>p.1==n)=acc++((B7 m).take i).filter (λp=>p.1==n):=by
    simp [*]
   rw [e];simp only [Ri,hlt',if_true,hix,A0,he,Bool.false_eq_true,if_false,hs]) (by
  have:decide (((B7 m).length)<(m.2.2.2.2.2.length:Int))=false:=Dg (B7 m);simp only [Ri,this,Bool.false_eq_true,if_false,List.take_length])
 simpa using this
theorem B9t (h:J4 d) {n:Int} {acc0 acc:List B1} (ha:acc.length<=500):loopF (Xs (n,acc0) (A8 d)) (0,acc)=some (acc++(D9 (A8 d)).filter λp=>p.1==n):=by
 have hf:=h.few;have:=C7 (tb:=Xs (n,acc0) (A8 d)) (x:=acc++(D9 (A8 d)).filter λp=>p.1==n) (λi=>((i),acc++(D9 ((A8 d).take i)).filter λp=>p.1==n)) (A8 d).length (by omega) (λi hi=>by
  have hat:=List.getElem?_eq_getElem hi;generalize (A8 d)[i]=m at hat;have ho:=h.own m (List.mem_of_getElem? hat);have hlen:((D9 ((A8 d).take i)).filter λp=>p.1==n).length<=14:=Nat.le_trans (List.length_filter_le ..) (by
   have:=Mz (A8 d) i;have h2:=congrArg List.length this;rw [List.length_append] at h2;omega)
  have inner:=B9s (n:=n) (acc0:=acc0) (m:=m) (λp hp=>by obtain⟨k,_,_,hn⟩:=ho.pts p hp;exact⟨k,hn⟩) ho.few.2 (acc:=acc++(D9 ((A8 d).take i)).filter λp=>p.1==n) (by simp;omega);simp only [Xs,D2 hat,if_true,A9 hat,A0,inner,E8 hat (by omega),Hw hat,List.filter_append,List.append_assoc]) (by
  simp  [Xs,List.take_length])
 simpa [D9] using this
theorem A8o (l:List B1) (n:Int):(l.filter λp=>decide (p.1<n+1)).length=(l.filter λp=>decide (p.1<n)).length+(l.filter λp=>p.1==n).length:=by
 induction l with
 | nil=>rfl
 | cons p l ih =>
  simp only [List.filter_cons]
  by_cases h1:p.1<n
  ·have h2:p.1<n+1:=by omega
   have h3:(p.1==n)=false:=beq_eq_false_iff_ne.2 (by omega);simp  [decide_eq_true h1,decide_eq_true h2,h3,ih];omega
  ·by_cases h4:p.1=n
   ·have h2:p.1<n+1:=by omega
    have h3:=beq_iff_eq.2 h4;simp  [decide_eq_false h1,decide_eq_true h2,h3,ih];omega
   ·have h2:¬ p.1<n+1:=by omega
    simp [*]
theorem A2v (h:J4 d):∃ l,f35 d=some l∧l.length=(D9 (A8 d)).length∧∀ x,x∈l↔x∈D9 (A8 d):=by
 have hf:=h.few;have ids:∀ p∈D9 (A8 d),0<=p.1∧p.1<((1000)):=λp hp=>by
  obtain⟨j,hj⟩:=List.getElem?_of_mem hp;obtain⟨hj1,hj2⟩:=h.isPort hj;obtain⟨o,ho,e⟩:=Mr hj1<;>omega
 obtain⟨x,h1,h2⟩:=Y5 (tb:=B12 d) (Q:=λl=>l.length=(D9 (A8 d)).length∧∀ x,x∈l↔x∈D9 (A8 d))
  (Inv:=λk s=>∃ (i:Nat) (acc:List B1),i+k=1000∧acc.length=((D9 (A8 d)).filter λp=>decide (p.1<(i:Int))).length∧(∀ x,x∈acc↔x∈D9 (A8 d)∧x.1<(i))∧s=((i:Int),acc))
  (λk s ⟨i,acc,g1,g2,g4,g3⟩=>by
   subst g3;have hle:decide ((i:Int)<=999)=true:=decide_eq_true (by omega);have hacc:acc.length<=500:=by rw [g2];exact Nat.le_trans (List.length_filter_le ..) (by omega)
   refine⟨_,?_,i+1,acc++(D9 (A8 d)).filter (λp=>p.1==(i:Int)),by omega,?_,λx => ?_,rfl⟩
   ·simp only [B12,hle,if_true,My h.len.1 h.len.2,A0,B9t h hacc];rw [K0 (by omega)]
   ·rw [List.length_append,g2];have:=A8o (D9 (A8 d)) (i);simp [*]
   ·rw [List.mem_append,g4,List.mem_filter];simp  ;constructor
    ·rintro(⟨a,b⟩ | ⟨a,b⟩)
     ·exact⟨a,by omega⟩
     ·exact⟨a,by omega⟩
    ·rintro⟨a,b⟩
     by_cases e:x.1=(i)
     ·simp [*]
     ·exact .inl ⟨a,by omega⟩)
  (λs ⟨i,acc,g1,g2,g4,g3⟩=>by
   subst g3;have:i=1000:=by omega
   subst this;refine⟨acc,rfl,?_,λx=>⟨λhx=>((g4 x).1 hx).1,λhx=>(g4 x).2 ⟨hx,(ids x hx).2⟩⟩⟩;rw [g2];congr 1;exact List.filter_eq_self.2 λp hp=>decide_eq_true (ids p hp).2)
  (n:=1000) (by omega) (s:=(0,[])) ⟨0,[],rfl,by
   symm;show _=0;rw [List.length_eq_zero_iff,List.filter_eq_nil_iff];intro p hp;simp [*],λx=>⟨λhx=>(nomatch hx),λ⟨hx,e⟩=>by have:=ids x hx;omega⟩,rfl⟩
 exact⟨x,by simp  [f35,h1],h2⟩
theorem B6c (h:J4 d):∃ l,f35 d=some l∧l.length=(D9 (A8 d)).length:=by
 obtain⟨l,h1,h2,_⟩:=A2v h<;>simp_all
end Go.Top
