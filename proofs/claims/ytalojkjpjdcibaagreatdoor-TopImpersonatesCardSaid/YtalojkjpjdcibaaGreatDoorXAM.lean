/- Part of the proof that 'TopImpersonates' holds of every input: no condition. -/
import Derived.Test.YtalojkjpjdcibaaGreatDoorXAK
import Derived.KernelRfl
namespace Go.Top
open Go Go.Vc
theorem bind_some' {α β:Type} (x:α) (f:α→Option β):(some x).bind f=f x:=rfl
theorem chk_true {α:Type} {b:Bool} {k:Option α} (h:b=true):Vc.chk b k=k:=by subst h;rfl
theorem loopF_range {S X:Type} {tb:S→Option (X⊕S)} (st:Nat→S) (n:Nat) {x:X} (hn:n≤1000000) (step:∀ i,i<n→tb (st i)=some (.inr (st (i+1)))) (fin:tb (st n)=some (.inl x)):loopF tb (st 0)=some x:=by
  have key:∀ k i,i+k=n→iter tb (k+1) (st i)=some x:=by
    intro k
    induction k with
    | zero =>
      intro i h;have:i=n:=by omega
      subst this;rw [iter,fin];rfl
    | succ k ih =>
      intro i h
      rw [iter,step i (by omega)]
      exact ih (i+1) (by omega)
  exact iter_le (show n+1≤1099511627776 by omega) (key n 0 (by omega))
theorem w64_nat {n:Nat} (h:n≤4611686018427387904):w64 (n:Int)=n:=w64_id (by omega) (by omega)
theorem w64_succ {n:Nat} (h:n≤4611686018427387904):w64 ((n:Int)+1)=((n+1:Nat):Int):=by rw [w64_id (by omega) (by omega)];omega
theorem idx_nat {α:Type} {xs:List α} {k:Nat} {x:α} (h:xs[k]? = some x):idx xs (k:Int)=some x:=idx_get h
theorem lenLIM {n:Nat} (h:n≤4294967296):decide (n≤LIM)=true:=decide_eq_true h

theorem next_ok {l:List Int} (hl:l.length≤9223372036854775807) {n k:Nat} (hn:0<n) (hn2:n≤1000000) (hk:k≤l.length):∃ v k':Nat,f25 n l k=some ((v:Int),(k':Int))∧v<n∧k'≤l.length:=by
  unfold f25
  by_cases h:l.length≤k
  · have:k=l.length:=by omega
    exact⟨0,k,by rw [if_pos (decide_eq_true (by omega))];rfl,hn,hk⟩
  · have hlt:k<l.length:=by omega
    rw [if_neg (by rw [decide_eq_true_eq];omega)]
    rw [w64_id (show -9223372036854775808≤(k:Int)+1 by omega) (by omega),w64_id (show -9223372036854775808≤(k:Int)+1-1 by omega) (by omega),show(k:Int)+1-1=(k:Nat) by omega]
    rw [idx_nat (List.getElem?_eq_getElem hlt),bind_some']
    generalize l[k]=x
    unfold f9
    rw [chk_true (show((n:Int) != 0)=true by simp;omega)]
    have hp:(0:Int)<n:=by omega
    have hlt2:=Int.tmod_lt_of_pos x hp
    by_cases hneg:Int.tmod x n<0
    · rw [if_pos (decide_eq_true hneg),bind_some']
      have h3:-(n:Int)<Int.tmod x n:=Int.lt_tmod_of_pos x hp
      rw [w64_id (by omega) (by omega)]
      exact⟨(Int.tmod x n+n).toNat,k+1,by rw [Int.toNat_of_nonneg (by omega)];rfl,by omega,by omega⟩
    · rw [if_neg (by rw [decide_eq_true_eq];exact hneg),bind_some']
      exact⟨(Int.tmod x n).toNat,k+1,by rw [Int.toNat_of_nonneg (by omega)];rfl,by omega,by omega⟩

-- ports that are made
def macT (k:Nat):List Int:=[2,0,0,0,0,(k:Int)]
def fourT (n:Nat):Addr:=(false,0,3221225984+((1+n:Nat):Int))
def sixT (n:Nat):Addr:=(true,2306139568115548160,((1+n:Nat):Int))
def zeroA:Addr:=(false,0,0)
def portAt (n o sw spi:Nat) (two:Bool) (vc:Nat):Port :=
  (((3*n+o:Nat):Int),(sw:Int),([1,10,100,400]:List Int).getD spi 1,if two then [macT (100+n),macT (200+n)] else [macT (100+n)],if vc=1 then zeroA else fourT n,if vc=0 then zeroA else sixT n)
def IsPort (n:Nat) (p:Port):Prop:=∃ o sw spi:Nat,∃ two:Bool,∃ vc:Nat,o<3∧sw<4∧spi<4∧vc<3∧p=portAt n o sw spi two vc
theorem allRange {P:Nat→Bool} {m:Nat} (h:(List.range m).all P=true) {n:Nat} (hn:n<m):P n=true:=List.all_eq_true.1 h n (List.mem_range.2 hn)
theorem f82_ok {n:Nat} (h:n<256):f82 n=some (macT n) :=
  eq_of_beq (allRange (P:=fun n=>f82 (n:Int)==some (macT n)) (by kernel_rfl) h)
theorem f56_ok {n:Nat} (h:n<20):f56 n=some (fourT n) :=
  eq_of_beq (allRange (P:=fun n=>f56 (n:Int)==some (fourT n)) (by kernel_rfl) h)
theorem f60_ok {n:Nat} (h:n<20):f60 n=some (sixT n) :=
  eq_of_beq (allRange (P:=fun n=>f60 (n:Int)==some (sixT n)) (by kernel_rfl) h)
def Ports (a:Nat) (l:List Port):Prop:=∀ i p,l[i]? = some p→IsPort (a+i+1) p
theorem Ports.nil (a:Nat):Ports a []:=fun i p h=>by simp at h
theorem Ports.snoc {a:Nat} {l:List Port} {p:Port} (h:Ports a l) (hp:IsPort (a+l.length+1) p):Ports a (l++[p]):=fun i q hq=>by
  rw [List.getElem?_append] at hq
  split at hq
  · exact h i q hq
  · rename_i hi
    have:i-l.length=0:=by
      cases hk:i-l.length with
      | zero=>rfl
      | succ k=>rw [hk] at hq;simp at hq
    rw [this] at hq
    simp at hq
    subst hq
    have:i=l.length:=by omega
    subst this;exact hp
theorem Ports.app {a:Nat} {l l':List Port} (h:Ports a l) (h':Ports (a+l.length) l'):Ports a (l++l'):=fun i q hq=>by
  rw [List.getElem?_append] at hq
  split at hq
  · exact h i q hq
  · rename_i hi
    have:=h' (i-l.length) q hq
    rw [show a+l.length+(i-l.length)+1=a+i+1 from by omega] at this
    exact this
theorem jn_eq {s α:Type} (rest:s→Option α) (body:(s→Option α)→Option α):jn rest body=body rest:=rfl
theorem port_drawn {l:List Int} (hl:l.length≤9223372036854775807) {c k n:Nat} (hk:k≤l.length) (hn:n≤14) (hc:c≤1000) {acc:List Port} (hacc:acc.length≤1000) :
    ∃ k' p,k'≤l.length∧IsPort (n+1) p∧f39L0 l (((c+1:Nat):Int),((k:Nat):Int),((n:Nat):Int),acc)=some (.inr ((c:Int),((k':Nat):Int),((n+1:Nat):Int),acc++[p])):=by
  obtain⟨o,k1,e1,b1,c1⟩:=next_ok hl (n:=3) (by decide) (by decide) hk
  obtain⟨sw,k2,e2,b2,c2⟩:=next_ok hl (n:=4) (by decide) (by decide) c1
  obtain⟨sp,k3,e3,b3,c3⟩:=next_ok hl (n:=4) (by decide) (by decide) c2
  obtain⟨tw,k4,e4,b4,c4⟩:=next_ok hl (n:=4) (by decide) (by decide) c3
  obtain⟨vc,k5,e5,b5,c5⟩:=next_ok hl (n:=4) (by decide) (by decide) c4
  have e1:f25 3 l (k:Int)=some ((o:Int),(k1:Int)):=e1
  have e2:f25 4 l (k1:Int)=some ((sw:Int),(k2:Int)):=e2
  have e3:f25 4 l (k2:Int)=some ((sp:Int),(k3:Int)):=e3
  have e4:f25 4 l (k3:Int)=some ((tw:Int),(k4:Int)):=e4
  have e5:f25 4 l (k4:Int)=some ((vc:Int),(k5:Int)):=e5
  have hs:idx ([1,10,100,400]:List Int) (sp:Int)=some (([1,10,100,400]:List Int).getD sp 1):=by
    apply idx_nat
    match sp,b3 with
    | 0,_=>rfl
    | 1,_=>rfl
    | 2,_=>rfl
    | 3,_=>rfl
  have q1:w64 ((n:Int)+1)=((n+1:Nat):Int):=w64_succ (by omega)
  have q2:w64 (3*((n+1:Nat):Int))=((3*(n+1):Nat):Int):=by rw [w64_id (by omega) (by omega)];omega
  have q3:w64 (((3*(n+1):Nat):Int)+(o:Int))=((3*(n+1)+o:Nat):Int):=by rw [w64_id (by omega) (by omega)];omega
  have q4:w64 (100+((n+1:Nat):Int))=((100+(n+1):Nat):Int):=by rw [w64_id (by omega) (by omega)];omega
  have q5:w64 (200+((n+1:Nat):Int))=((200+(n+1):Nat):Int):=by rw [w64_id (by omega) (by omega)];omega
  have q6:w64 (((c+1:Nat):Int)-1)=(c:Int):=by rw [w64_id (by omega) (by omega)];omega
  have m1:=f82_ok (n:=100+(n+1)) (by omega)
  have m2:=f82_ok (n:=200+(n+1)) (by omega)
  have a4:=f56_ok (n:=n+1) (by omega)
  have a6:=f60_ok (n:=n+1) (by omega)
  have hlen:∀ p:Port,decide ((acc++[p]).length≤LIM)=true:=fun p=>lenLIM (by simp;omega)
  have n1:∀ a b:Nat,(((a:Int)==(b:Int)):Bool)=decide (a=b):=fun a b=>by
    by_cases h:a=b
    · subst h;simp
    · simp [h];omega
  have t3:(((tw:Int)==3):Bool)=decide (tw=3):=n1 tw 3
  have v0:(((vc:Int)==0):Bool)=decide (vc=0):=n1 vc 0
  have v1:(((vc:Int)==1):Bool)=decide (vc=1):=n1 vc 1
  have hc0:decide (0<((c+1:Nat):Int))=true:=decide_eq_true (by omega)
  have h2:decide (((([macT (100+(n+1))]:List MAC)++([macT (200+(n+1))]:List MAC))).length≤LIM)=true:=lenLIM (by simp)
  have mk:∀ (two:Bool) (v:Nat),v<3→f39L0 l (((c+1:Nat):Int),((k:Nat):Int),((n:Nat):Int),acc)=some (.inr ((c:Int),((k5:Nat):Int),((n+1:Nat):Int),acc++[portAt (n+1) o sw sp two v])) →
      ∃ k' p,k'≤l.length∧IsPort (n+1) p∧f39L0 l (((c+1:Nat):Int),((k:Nat):Int),((n:Nat):Int),acc)=some (.inr ((c:Int),((k':Nat):Int),((n+1:Nat):Int),acc++[p])):=fun two v hv h=>⟨k5,_,c5,⟨o,sw,sp,two,v,b1,b2,b3,hv,rfl⟩,h⟩
  by_cases h3:tw=3
  · have t3:=t3.trans (decide_eq_true h3)
    by_cases h0:vc=0
    · have v0:=v0.trans (decide_eq_true h0)
      refine mk true 0 (by decide) ?_
      simp only [f39L0,hc0,e1,bind_some',e2,e3,hs,q1,q2,q3,q4,q5,q6,m1,m2,jn_eq,e4,e5,t3,v0,a4,a6,Bool.false_eq_true,if_true,if_false,chk_true (hlen _),chk_true h2];rfl
    · have v0:=v0.trans (decide_eq_false h0)
      by_cases h1:vc=1
      · have v1:=v1.trans (decide_eq_true h1)
        refine mk true 1 (by decide) ?_
        simp only [f39L0,hc0,e1,bind_some',e2,e3,hs,q1,q2,q3,q4,q5,q6,m1,m2,jn_eq,e4,e5,t3,v0,v1,a4,a6,Bool.false_eq_true,if_true,if_false,chk_true (hlen _),chk_true h2];rfl
      · have v1:=v1.trans (decide_eq_false h1)
        refine mk true 2 (by decide) ?_
        simp only [f39L0,hc0,e1,bind_some',e2,e3,hs,q1,q2,q3,q4,q5,q6,m1,m2,jn_eq,e4,e5,t3,v0,v1,a4,a6,Bool.false_eq_true,if_true,if_false,chk_true (hlen _),chk_true h2];rfl
  · have t3:=t3.trans (decide_eq_false h3)
    by_cases h0:vc=0
    · have v0:=v0.trans (decide_eq_true h0)
      refine mk false 0 (by decide) ?_
      simp only [f39L0,hc0,e1,bind_some',e2,e3,hs,q1,q2,q3,q4,q5,q6,m1,m2,jn_eq,e4,e5,t3,v0,a4,a6,Bool.false_eq_true,if_true,if_false,chk_true (hlen _),chk_true h2];rfl
    · have v0:=v0.trans (decide_eq_false h0)
      by_cases h1:vc=1
      · have v1:=v1.trans (decide_eq_true h1)
        refine mk false 1 (by decide) ?_
        simp only [f39L0,hc0,e1,bind_some',e2,e3,hs,q1,q2,q3,q4,q5,q6,m1,m2,jn_eq,e4,e5,t3,v0,v1,a4,a6,Bool.false_eq_true,if_true,if_false,chk_true (hlen _),chk_true h2];rfl
      · have v1:=v1.trans (decide_eq_false h1)
        refine mk false 2 (by decide) ?_
        simp only [f39L0,hc0,e1,bind_some',e2,e3,hs,q1,q2,q3,q4,q5,q6,m1,m2,jn_eq,e4,e5,t3,v0,v1,a4,a6,Bool.false_eq_true,if_true,if_false,chk_true (hlen _),chk_true h2];rfl
end Go.Top
namespace Go.Top
open Go Go.Vc
theorem loopF_of {S X:Type} {tb:S→Option (X⊕S)} {n:Nat} {s:S} {x:X} (hn:n≤1000000) (h:iter tb n s=some x):loopF tb s=some x:=iter_le (by omega) h
theorem loopF_inv {S X:Type} {tb:S→Option (X⊕S)} {Inv:Nat→S→Prop} {Q:X→Prop} (step:∀ i s,Inv (i+1) s→∃ s',tb s=some (.inr s')∧Inv i s') (fin:∀ s,Inv 0 s→∃ x,tb s=some (.inl x)∧Q x)
    {n:Nat} (hn:n≤10000) {s:S} (h0:Inv n s):∃ x,loopF tb s=some x∧Q x:=by
  have key:∀ n s,Inv n s→∃ x,iter tb (n+1) s=some x∧Q x:=by
    intro n
    induction n with
    | zero=>intro s h;obtain⟨x,h1,h2⟩:=fin s h;exact⟨x,by rw [iter,h1];rfl,h2⟩
    | succ n ih =>
      intro s h
      obtain⟨s',h1,h2⟩:=step n s h
      obtain⟨x,h3,h4⟩:=ih s' h2
      exact⟨x,by rw [iter,h1];exact h3,h4⟩
  obtain⟨x,h1,h2⟩:=key n s h0
  exact⟨x,loopF_of (by omega) h1,h2⟩
def sets:List (List UInt8):=[[],[65,83,45,65],[65,83,45,66]]
def mports (m:Member):List Port:=m.2.2.2.2.2
structure MemOk (nm:Int×List UInt8) (m:Member):Prop where
  asn:m.1=nm.1
  name:m.2.1=nm.2
  set:m.2.2.1∈sets
  m4:∃ x:Nat,x<20∧m.2.2.2.1=x
  m6:∃ x:Nat,x<20∧m.2.2.2.2.1=x
  few:1≤(mports m).length∧(mports m).length≤2
theorem f39_ok {l:List Int} (hl:l.length≤9223372036854775807) {k n:Nat} (hk:k≤l.length) (hn:n≤12) (asn:Int) (name:List UInt8) :
    ∃ k' m,k'≤l.length∧MemOk (asn,name) m∧Ports n (mports m)∧f39 asn name l k n=some (((k':Nat):Int),((n+(mports m).length:Nat):Int),m):=by
  obtain⟨s,k1,e1,b1,c1⟩:=next_ok hl (n:=3) (by decide) (by decide) hk
  obtain⟨x,k2,e2,b2,c2⟩:=next_ok hl (n:=20) (by decide) (by decide) c1
  obtain⟨y,k3,e3,b3,c3⟩:=next_ok hl (n:=20) (by decide) (by decide) c2
  obtain⟨v,k4,e4,b4,c4⟩:=next_ok hl (n:=2) (by decide) (by decide) c3
  have e1:f25 3 l (k:Int)=some ((s:Int),(k1:Int)):=e1
  have e2:f25 20 l (k1:Int)=some ((x:Int),(k2:Int)):=e2
  have e3:f25 20 l (k2:Int)=some ((y:Int),(k3:Int)):=e3
  have e4:f25 2 l (k3:Int)=some ((v:Int),(k4:Int)):=e4
  have hs:∃ q,idx sets (s:Int)=some q∧q∈sets:=by
    match s,b1 with
    | 0,_=>exact⟨_,rfl,by decide⟩
    | 1,_=>exact⟨_,rfl,by decide⟩
    | 2,_=>exact⟨_,rfl,by decide⟩
  obtain⟨q,hq,hq2⟩:=hs
  have hq:idx ([([]:List UInt8),([65,83,45,65]:List UInt8),([65,83,45,66]:List UInt8)]:List (List UInt8)) (s:Int)=some q:=hq
  have q1:w64 (1+(v:Int))=((v+1:Nat):Int):=by rw [w64_id (by omega) (by omega)];omega
  obtain⟨r,h1,k5,ps,c5,hps,hlen,rfl⟩:=loopF_inv (tb:=f39L0 l) (Q:=fun r=>∃ (k5:Nat) (ps:List Port),k5≤l.length∧Ports n ps∧ps.length=v+1∧r=((k5:Int),((n+ps.length:Nat):Int),ps))
    (Inv:=fun i s=>∃ (k5:Nat) (ps:List Port),k5≤l.length∧Ports n ps∧ps.length+i=v+1∧s=((i:Int),(k5:Int),((n+ps.length:Nat):Int),ps))
    (fun i s ⟨k5,ps,g1,g2,g3,g4⟩=>by
      subst g4
      obtain⟨k6,p,h1,h2,h3⟩:=port_drawn hl g1 (n:=n+ps.length) (c:=i) (by omega) (by omega) (acc:=ps) (by omega)
      exact⟨_,h3,k6,ps++[p],h1,g2.snoc h2,by simp;omega,by simp [Nat.add_assoc]⟩)
    (fun s ⟨k5,ps,g1,g2,g3,g4⟩=>by
      subst g4
      exact⟨_,by unfold f39L0;rw [if_neg (by simp)],k5,ps,g1,g2,by omega,rfl⟩)
    (n:=v+1) (by omega) (s:=(((v+1:Nat):Int),(k4:Int),(n:Int),[])) ⟨k4,[],c4,Ports.nil n,by simp,rfl⟩
  refine⟨k5,(asn,name,q,(x:Int),(y:Int),ps),c5,⟨rfl,rfl,hq2,⟨x,b2,rfl⟩,⟨y,b3,rfl⟩,by show 1≤ps.length;omega,by show ps.length≤2;omega⟩,hps,?_⟩
  simp only [f39,e1,bind_some',hq,e2,e3,e4,q1,h1]
  rfl
def nmS (i:Nat):Int×List UInt8:=(65000,([[114,115,45,49],[114,115,45,50]]:List (List UInt8)).getD i [])
def nmM (i:Nat):Int×List UInt8:=(((1+7*i:Nat):Int),([[97],[98,45,50],[67,58,51],[100,101,108,116,97],[101]]:List (List UInt8)).getD i [])
def Mems (nm:Nat→Int×List UInt8) (ms:List Member):Prop:=∀ i m,ms[i]? = some m→MemOk (nm i) m
theorem Mems.snoc {nm:Nat→Int×List UInt8} {ms:List Member} {m:Member} (h:Mems nm ms) (hm:MemOk (nm ms.length) m):Mems nm (ms++[m]):=fun i q hq=>by
  rw [List.getElem?_append] at hq
  split at hq
  · exact h i q hq
  · rename_i hi
    cases hk:i-ms.length with
    | zero =>
      rw [hk] at hq
      simp at hq
      subst hq
      have:i=ms.length:=by omega
      subst this;exact hm
    | succ k=>rw [hk] at hq;simp at hq
def allP (ms:List Member):List Port:=(ms.map mports).flatten
theorem allP_snoc (ms:List Member) (m:Member):allP (ms++[m])=allP ms++mports m:=by simp [allP]
theorem allP_len {nm:Nat→Int×List UInt8}:∀ {ms:List Member},(∀ m∈ms,(mports m).length≤2)→(allP ms).length≤2*ms.length
  | [],_=>by simp [allP]
  | m :: ms,h=>by
    have:=allP_len (nm:=nm) (ms:=ms) fun q hq=>h q (List.mem_cons_of_mem _ hq)
    have h1:=h m (List.mem_cons_self ..)
    simp only [allP,List.map_cons,List.flatten_cons,List.length_append,List.length_cons] at this ⊢
    omega
theorem Mems.few {nm:Nat→Int×List UInt8} {ms:List Member} (h:Mems nm ms):(allP ms).length≤2*ms.length:=allP_len (nm:=nm) fun m hm=>by
  obtain⟨i,hi⟩:=List.getElem?_of_mem hm
  exact(h i m hi).few.2
structure Made (d:Database):Prop where
  lan4:d.1=((false,0,3221225984),24)
  lan6:d.2.1=((true,2306139568115548160,0),64)
  srv:Mems nmS d.2.2.1
  mem:Mems nmM d.2.2.2
  ls:d.2.2.1.length≤2
  lm:2≤d.2.2.2.length∧d.2.2.2.length≤5
  ports:Ports 0 (allP (d.2.2.1++d.2.2.2))
theorem f8_ok {l:List Int} (hl:l.length≤9223372036854775807):∃ (k:Nat) (d:Database),k≤l.length∧Made d∧f8 l 0=some ((k:Int),d):=by
  obtain⟨s,k1,e1,b1,c1⟩:=next_ok hl (n:=3) (by decide) (by decide) (k:=0) (by omega)
  have e1:f25 3 l 0=some ((s:Int),(k1:Int)):=e1
  obtain⟨r,h1,k2,ms,c2,g1,g2,g3,rfl⟩:=loopF_inv (tb:=f8L0 l ((s:Int),(k1:Int)))
    (Q:=fun r=>∃ (k5:Nat) (ms:List Member),k5≤l.length∧Mems nmS ms∧Ports 0 (allP ms)∧ms.length=s∧r=((k5:Int),(((allP ms).length:Nat):Int),ms))
    (Inv:=fun i t=>∃ (k5:Nat) (ms:List Member),k5≤l.length∧Mems nmS ms∧Ports 0 (allP ms)∧ms.length+i=s∧t=((ms.length:Int),(k5:Int),(((allP ms).length:Nat):Int),ms))
    (fun i t ⟨k5,ms,g1,g2,g3,g4,g5⟩=>by
      subst g5
      have hfew:=g2.few
      obtain⟨k6,m,q1,q2,q3,q4⟩:=f39_ok hl g1 (n:=(allP ms).length) (by omega) (nmS ms.length).1 (nmS ms.length).2
      have hi:idx ([([114,115,45,49]:List UInt8),([114,115,45,50]:List UInt8)]:List (List UInt8)) (ms.length:Int)=some (nmS ms.length).2:=by
        apply idx_nat
        have:ms.length<2:=by omega
        match hm:ms.length,this with
        | 0,_=>rfl
        | 1,_=>rfl
      have q4:f39 65000 (nmS ms.length).2 l (k5:Int) (((allP ms).length:Nat):Int)=_:=q4
      refine⟨_,?_,k6,ms++[m],q1,g2.snoc q2,by rw [allP_snoc];exact g3.app (by rw [Nat.zero_add];exact q3),by simp;omega,rfl⟩
      have hlt:decide ((ms.length:Int)<(s:Int))=true:=decide_eq_true (by omega)
      simp only [f8L0,hlt,if_true,hi,bind_some',q4]
      rw [chk_true (lenLIM (show(ms++[m]).length≤4294967296 by simp;omega)),w64_succ (show ms.length≤4611686018427387904 by omega),allP_snoc,List.length_append,List.length_append];rfl)
    (fun t ⟨k5,ms,g1,g2,g3,g4,g5⟩=>by
      subst g5
      have hlt:decide ((ms.length:Int)<(s:Int))=false:=decide_eq_false (by omega)
      exact⟨_,by simp only [f8L0,hlt,Bool.false_eq_true,if_false],k5,ms,g1,g2,g3,by omega,rfl⟩)
    (n:=s) (by omega) (s:=(0,(k1:Int),0,[])) ⟨k1,[],c1,(fun i m h=>by simp at h),(fun i p h=>by simp [allP] at h),by simp,rfl⟩
  obtain⟨s2,k3,e2,b2,c3⟩:=next_ok hl (n:=4) (by decide) (by decide) c2
  have e2:f25 4 l (k2:Int)=some ((s2:Int),(k3:Int)):=e2
  have q2:w64 (2+(s2:Int))=((2+s2:Nat):Int):=by rw [w64_id (by omega) (by omega)];omega
  have hfs:=g1.few
  obtain⟨r,h2,k4,mm,c4,i1,i2,i3,rfl⟩:=loopF_inv (tb:=f8L1 l ((s2:Int),(k3:Int)))
    (Q:=fun r=>∃ (k5:Nat) (mm:List Member),k5≤l.length∧Mems nmM mm∧Ports 0 (allP (ms++mm))∧mm.length=2+s2∧r=((k5:Int),mm))
    (Inv:=fun i t=>∃ (k5:Nat) (mm:List Member),k5≤l.length∧Mems nmM mm∧Ports 0 (allP (ms++mm))∧mm.length+i=2+s2∧t=((mm.length:Int),(k5:Int),(((allP (ms++mm)).length:Nat):Int),mm))
    (fun i t ⟨k5,mm,g1,g2,g3,g4,g5⟩=>by
      subst g5
      have hfew:=g2.few
      have hsum:(allP (ms++mm)).length=(allP ms).length+(allP mm).length:=by simp [allP]
      obtain⟨k6,m,q1,q2',q3,q4⟩:=f39_ok hl g1 (n:=(allP (ms++mm)).length) (by omega) (nmM mm.length).1 (nmM mm.length).2
      have hi:idx ([([97]:List UInt8),([98,45,50]:List UInt8),([67,58,51]:List UInt8),([100,101,108,116,97]:List UInt8),([101]:List UInt8)]:List (List UInt8)) (mm.length:Int)=some (nmM mm.length).2:=by
        apply idx_nat
        have:mm.length<5:=by omega
        match hm:mm.length,this with
        | 0,_=>rfl
        | 1,_=>rfl
        | 2,_=>rfl
        | 3,_=>rfl
        | 4,_=>rfl
      have ha:w64 (1+w64 (7*(mm.length:Int)))=(nmM mm.length).1:=by
        rw [w64_id (n:=7*(mm.length:Int)) (by omega) (by omega),w64_id (by omega) (by omega)]
        show _=((1+7*mm.length:Nat):Int)
        omega
      refine⟨_,?_,k6,mm++[m],q1,g2.snoc q2',by rw [← List.append_assoc,allP_snoc];exact g3.app (by rw [Nat.zero_add];exact q3),by simp;omega,rfl⟩
      have hlt:decide ((mm.length:Int)<((2+s2:Nat):Int))=true:=decide_eq_true (by omega)
      simp only [f8L1,q2,hlt,if_true,hi,bind_some',ha,q4]
      rw [chk_true (lenLIM (show(mm++[m]).length≤4294967296 by simp;omega)),w64_succ (show mm.length≤4611686018427387904 by omega),← List.append_assoc,allP_snoc,List.length_append,List.length_append];rfl)
    (fun t ⟨k5,mm,g1,g2,g3,g4,g5⟩=>by
      subst g5
      have hlt:decide ((mm.length:Int)<((2+s2:Nat):Int))=false:=decide_eq_false (by omega)
      exact⟨_,by simp only [f8L1,q2,hlt,Bool.false_eq_true,if_false],k5,mm,g1,g2,g3,by omega,rfl⟩)
    (n:=2+s2) (by omega) (s:=(0,(k3:Int),(((allP ms).length:Nat):Int),[])) ⟨k3,[],c3,(fun i m h=>by simp at h),by rw [List.append_nil];exact g2,by simp,by rw [List.append_nil];rfl⟩
  refine⟨k4,(((false,0,3221225984),24),((true,2306139568115548160,0),64),ms,mm),c4,⟨rfl,rfl,g1,i1,by show ms.length≤2;omega,by show 2≤mm.length∧mm.length≤5;omega,i2⟩,?_⟩
  simp only [f8,f37,f38,bind_some',e1,h1,e2,h2]
end Go.Top
namespace Go.Top
open Go Go.Vc
def portChk (m:Nat) (P:Nat→Port→Bool):Bool:=(List.range m).all fun a=>(List.range 3).all fun o=>(List.range 4).all fun sw=>(List.range 4).all fun sp=>[true,false].all fun two=>(List.range 3).all fun vc=>P (a+1) (portAt (a+1) o sw sp two vc)
theorem portChk_ok {m:Nat} {P:Nat→Port→Bool} (h:portChk m P=true) {n:Nat} {p:Port} (hp:IsPort n p) (h1:1≤n) (h2:n≤m):P n p=true:=by
  obtain⟨o,sw,sp,two,vc,b1,b2,b3,b4,rfl⟩:=hp
  have a1:=List.all_eq_true.1 h (n-1) (List.mem_range.2 (by omega))
  have a2:=List.all_eq_true.1 a1 o (List.mem_range.2 b1)
  have a3:=List.all_eq_true.1 a2 sw (List.mem_range.2 b2)
  have a4:=List.all_eq_true.1 a3 sp (List.mem_range.2 b3)
  have a5:=List.all_eq_true.1 a4 two (by cases two<;>simp)
  have a6:=List.all_eq_true.1 a5 vc (List.mem_range.2 b4)
  rw [show n-1+1=n from by omega] at a6
  exact a6
theorem f163_ok {a b c:Int}:f163 a b c=some (decide (b≤a)&&decide (a≤c)):=by
  unfold f163
  by_cases h:b≤a
  · rw [if_pos (decide_eq_true h),decide_eq_true h];rfl
  · rw [if_neg (by simpa using h),decide_eq_false h];rfl
theorem f163_t {a b c:Int} (h1:b≤a) (h2:a≤c):f163 a b c=some true:=by rw [f163_ok,decide_eq_true h1,decide_eq_true h2];rfl
theorem f168_ok {n:Nat} {p:Port} (hp:IsPort n p) (h1:1≤n) (h2:n≤14):f168 p=some true :=
  eq_of_beq (portChk_ok (P:=fun _ p=>f168 p==some true) (by kernel_rfl) hp h1 h2)
end Go.Top
namespace Go.Top
open Go Go.Vc
theorem loopF_list {α X:Type} {l:List α} (hl:l.length≤100000) {tb:Int→Option (X⊕Int)} {x:X} (step:∀ (i:Nat) a,l[i]? = some a→tb (i:Int)=some (.inr (((i+1:Nat):Int)))) (fin:tb (l.length:Int)=some (.inl x)):loopF tb 0=some x :=
  loopF_range (fun i=>(i:Int)) l.length (by omega) (fun i hi=>step i _ (List.getElem?_eq_getElem hi)) fin
theorem lt_len {α:Type} {l:List α} {i:Nat} {a:α} (h:l[i]? = some a):decide ((i:Int)<(l.length:Int))=true:=decide_eq_true (by have:=(List.getElem?_eq_some_iff.1 h).1;omega)
theorem at_len {α:Type} (l:List α):decide ((l.length:Int)<(l.length:Int))=false:=decide_eq_false (by omega)
theorem le_len {α:Type} {l:List α} {i:Nat} {a:α} (h:l[i]? = some a) (hl:l.length≤100000):w64 ((i:Int)+1)=((i+1:Nat):Int):=w64_succ (by have:=(List.getElem?_eq_some_iff.1 h).1;omega)
theorem f166_ok {ps:List Port} (hl:ps.length≤100) (h:∀ p∈ps,f168 p=some true):f166 ps=some false:=by
  have h1:f213 ps=some (-1):=by
    unfold f213
    rw [loopF_list (l:=ps) (x:=.inl ()) (by omega) (fun i a ha=>by
      simp only [f213L0,lt_len ha,if_true,idx_nat ha,bind_some',f167,h a (List.mem_of_getElem? ha),Bool.not_true,Bool.false_eq_true,if_false,le_len ha (by omega)]) (by
      simp only [f213L0,at_len,Bool.false_eq_true,if_false])]
    rfl
  unfold f166
  rw [h1];rfl
def nameList:List (List UInt8):=[[114,115,45,49],[114,115,45,50],[97],[98,45,50],[67,58,51],[100,101,108,116,97],[101]]
theorem f165_ok {s:List UInt8} (h:s∈nameList++[[65,83,45,65],[65,83,45,66]]):f165 s=some true:=by
  have:(nameList++[[65,83,45,65],[65,83,45,66]]).all (fun s=>f165 s==some true)=true:=by kernel_rfl
  exact eq_of_beq (List.all_eq_true.1 this s h)
structure OwnOk (m:Member):Prop where
  asn:1≤m.1∧m.1≤65000
  name:m.2.1∈nameList
  set:m.2.2.1∈sets
  m4:∃ x:Nat,x<20∧m.2.2.2.1=x
  m6:∃ x:Nat,x<20∧m.2.2.2.2.1=x
  few:1≤(mports m).length∧(mports m).length≤2
  pts:∀ p∈mports m,∃ n,1≤n∧n≤14∧IsPort n p
def owners (d:Database):List Member:=d.2.2.1++d.2.2.2
theorem Made.few {d:Database} (h:Made d):(allP (owners d)).length≤14∧2≤(owners d).length∧(owners d).length≤7:=by
  have h1:=h.srv.few
  have h2:=h.mem.few
  have h3:=h.ls
  have h4:=h.lm
  have:(allP (owners d)).length=(allP d.2.2.1).length+(allP d.2.2.2).length:=by simp [allP,owners]
  have h5:(owners d).length=d.2.2.1.length+d.2.2.2.length:=by simp [owners]
  omega
theorem allP_mem {ms:List Member} {m:Member} {p:Port} (hm:m∈ms) (hp:p∈mports m):p∈allP ms:=List.mem_flatten.2 ⟨_,List.mem_map.2 ⟨m,hm,rfl⟩,hp⟩
theorem Made.isPort {d:Database} (h:Made d) {i:Nat} {p:Port} (hi:(allP (owners d))[i]? = some p):IsPort (i+1) p∧i+1≤14:=by
  have:=h.ports i p hi
  rw [Nat.zero_add] at this
  have h2:=(List.getElem?_eq_some_iff.1 hi).1
  have h3:=h.few.1
  exact⟨this,by omega⟩
theorem Made.own {d:Database} (h:Made d):∀ m∈owners d,OwnOk m:=fun m hm=>by
  have key:∀ nm:Int×List UInt8,MemOk nm m→(1≤nm.1∧nm.1≤65000)→nm.2∈nameList→OwnOk m:=fun nm g g1 g2=>⟨by rw [g.asn];exact g1,by rw [g.name];exact g2,g.set,g.m4,g.m6,g.few,fun p hp=>by
    obtain⟨i,hi⟩:=List.getElem?_of_mem (allP_mem hm hp)
    obtain⟨q1,q2⟩:=h.isPort hi
    exact⟨i+1,by omega,q2,q1⟩⟩
  rcases List.mem_append.1 hm with hm | hm
  · obtain⟨i,hi⟩:=List.getElem?_of_mem hm
    have hlt:=(List.getElem?_eq_some_iff.1 hi).1
    have hls:=h.ls
    refine key _ (h.srv i m hi) ⟨by show(1:Int)≤65000;decide,by show(65000:Int)≤65000;decide⟩ ?_
    have:i<2:=by omega
    match i,this with
    | 0,_=>decide
    | 1,_=>decide
  · obtain⟨i,hi⟩:=List.getElem?_of_mem hm
    have hlt:=(List.getElem?_eq_some_iff.1 hi).1
    have hls:=h.lm
    refine key _ (h.mem i m hi) ⟨by show(1:Int)≤((1+7*i:Nat):Int);omega,by show((1+7*i:Nat):Int)≤65000;omega⟩ ?_
    have:i<5:=by omega
    match i,this with
    | 0,_=>decide
    | 1,_=>decide
    | 2,_=>decide
    | 3,_=>decide
    | 4,_=>decide
-- all
theorem f117_ok {d:Database} (h1:d.2.2.1.length≤1000) (h2:d.2.2.2.length≤1000):f117 d=some (owners d):=by
  have hc:∀ n:Nat,n≤2000→w64 (n:Int)=n:=fun n hn=>w64_nat (by omega)
  have s1:loopF (f177L0 [d.2.2.1,d.2.2.2]) (0,0)=some (((d.2.2.1.length+d.2.2.2.length:Nat):Int)):=by
    refine loopF_range (fun i=>((((if i=0 then 0 else if i=1 then d.2.2.1.length else d.2.2.1.length+d.2.2.2.length):Nat):Int),(i:Int))) 2 (by decide) (fun i hi => ?_) ?_
    · match i,hi with
      | 0,_ =>
        have e1:w64 (0+(d.2.2.1.length:Int))=(d.2.2.1.length:Int):=by rw [Int.zero_add];exact hc _ (by omega)
        have e2:decide ((d.2.2.1.length:Int)<0)=false:=decide_eq_false (by omega)
        show f177L0 [d.2.2.1,d.2.2.2] (0,0)=some (.inr ((d.2.2.1.length:Int),1))
        simp only [f177L0,show decide ((0:Int)<([d.2.2.1,d.2.2.2].length:Int))=true from rfl,if_true,show idx [d.2.2.1,d.2.2.2] 0=some d.2.2.1 from rfl,bind_some',e1,e2,Bool.false_eq_true,if_false,show w64 (0+1)=1 from rfl]
      | 1,_ =>
        have e1:w64 ((d.2.2.1.length:Int)+(d.2.2.2.length:Int))=((d.2.2.1.length+d.2.2.2.length:Nat):Int):=by rw [w64_id (by omega) (by omega)];omega
        have e2:decide (((d.2.2.1.length+d.2.2.2.length:Nat):Int)<0)=false:=decide_eq_false (by omega)
        show f177L0 [d.2.2.1,d.2.2.2] ((d.2.2.1.length:Int),1)=some (.inr (((d.2.2.1.length+d.2.2.2.length:Nat):Int),2))
        simp only [f177L0,show decide ((1:Int)<([d.2.2.1,d.2.2.2].length:Int))=true from rfl,if_true,show idx [d.2.2.1,d.2.2.2] 1=some d.2.2.2 from rfl,bind_some',e1,e2,Bool.false_eq_true,if_false,show w64 (1+1)=2 from rfl]
    · rfl
  have s2:f220 (((d.2.2.1.length+d.2.2.2.length:Nat):Int))=some []:=by
    have hn2:d.2.2.1.length+d.2.2.2.length≤2000:=by omega
    generalize d.2.2.1.length+d.2.2.2.length=n at hn2 ⊢
    have e2:decide ((n:Int)<0)=false:=decide_eq_false (by omega)
    have e1:w64 ((n:Int)-0)=(n:Int):=by rw [Int.sub_zero];exact hc _ (by omega)
    simp only [f220,e2,Bool.false_eq_true,if_false,e1]
    by_cases h0:0<(n:Int)
    · rw [if_pos (decide_eq_true h0),decide_eq_true h0]
      have hf:fitIT (n:Int)=true:=by
        unfold fitIT
        rw [decide_eq_true (show(0:Int)≤(n:Int) by omega),decide_eq_true (show(n:Int)≤((LIM:Nat):Int) from by show(n:Int)≤((4294967296:Nat):Int);omega)]
        rfl
      rw [hf]
      show Vc.chk (true&&true) (Vc.chk (leT 0 _) _)=_
      rfl
    · rw [if_neg (by simpa using h0)]
  have s3:loopF (f177L1 [d.2.2.1,d.2.2.2]) (0,[])=some (owners d):=by
    refine loopF_range (fun i=>((i:Int),if i=0 then [] else if i=1 then d.2.2.1 else owners d)) 2 (by decide) (fun i hi => ?_) rfl
    match i,hi with
    | 0,_ =>
      show f177L1 [d.2.2.1,d.2.2.2] (0,[])=some (.inr (1,d.2.2.1))
      simp only [f177L1,show decide ((0:Int)<([d.2.2.1,d.2.2.2].length:Int))=true from rfl,if_true,show idx [d.2.2.1,d.2.2.2] 0=some d.2.2.1 from rfl,bind_some',List.nil_append]
      rw [chk_true (lenLIM (by omega))];rfl
    | 1,_ =>
      show f177L1 [d.2.2.1,d.2.2.2] (1,d.2.2.1)=some (.inr (2,owners d))
      simp only [f177L1,show decide ((1:Int)<([d.2.2.1,d.2.2.2].length:Int))=true from rfl,if_true,show idx [d.2.2.1,d.2.2.2] 1=some d.2.2.2 from rfl,bind_some']
      rw [chk_true (lenLIM (by simp;omega))];rfl
  simp only [f117,f177,s1,s2,s3,bind_some']
theorem f129_ok {d:Database} (h1:d.2.2.1.length≤1000) (h2:d.2.2.2.length≤1000) (h3:(allP (owners d)).length≤100000):f129 d=some (allP (owners d)):=by
  have s:loopF (f129L0 (owners d)) (0,[])=some (allP (owners d)):=by
    have hl:(owners d).length≤2000:=by simp [owners];omega
    have hpre:∀ i,(allP ((owners d).take i)).length≤100000:=fun i=>by
      have:allP (owners d)=allP ((owners d).take i)++allP ((owners d).drop i):=by
        have:=List.take_append_drop i (owners d)
        conv=>lhs;rw [← this]
        unfold allP;rw [List.map_append,List.flatten_append]
      rw [this,List.length_append] at h3
      omega
    have:=loopF_range (tb:=f129L0 (owners d)) (fun i=>((i:Int),allP ((owners d).take i))) (owners d).length (x:=allP (owners d)) (by omega) (fun i hi=>by
      have ha:=List.getElem?_eq_getElem hi
      have ht:(owners d).take (i+1)=(owners d).take i++[(owners d)[i]]:=by rw [List.take_add_one,ha];rfl
      have hn:allP ((owners d).take (i+1))=allP ((owners d).take i)++mports (owners d)[i]:=by rw [ht,allP_snoc]
      simp only [f129L0,lt_len ha,if_true,idx_nat ha,bind_some',le_len ha (by omega),hn]
      have:=hpre (i+1)
      rw [hn] at this
      exact chk_true (lenLIM (show(allP ((owners d).take i)++mports (owners d)[i]).length≤4294967296 by omega))) (by
      simp only [f129L0,at_len,Bool.false_eq_true,if_false,List.take_length])
    exact this
  simp only [f129,f117_ok h1 h2,s,bind_some']
end Go.Top
namespace Go.Top
open Go Go.Vc
-- sets of keys
def seen {α:Type} (ks:List α):List (α×Bool):=ks.map fun k=>(k,true)
theorem mix_seen {α:Type} {eq:α→α→Bool} (he:∀ x y,eq x y=true↔x=y) {k:α}:∀ {ks:List α},k∉ks→mix eq k (seen ks)=none
  | [],_=>rfl
  | x :: ks,h=>by
    have h1:eq k x≠true:=fun e=>h (by rw [(he _ _).1 e];exact List.mem_cons_self ..)
    have:=mix_seen he (ks:=ks) fun hk=>h (List.mem_cons_of_mem _ hk)
    simp only [seen,List.map_cons,mix,if_neg h1] at this ⊢
    rw [this];rfl
theorem mget_seen {α:Type} {eq:α→α→Bool} (he:∀ x y,eq x y=true↔x=y) {k:α} {ks:List α} (h:k∉ks):Option.getD (mget eq (seen ks) k) false=false:=by
  unfold mget;rw [mix_seen he h];rfl
theorem mput_seen {α:Type} {eq:α→α→Bool} (he:∀ x y,eq x y=true↔x=y) {k:α}:∀ {ks:List α},k∉ks→mput eq (seen ks) k true=seen (ks++[k])
  | [],_=>rfl
  | x :: ks,h=>by
    have h1:eq k x≠true:=fun e=>h (by rw [(he _ _).1 e];exact List.mem_cons_self ..)
    have:=mput_seen he (ks:=ks) fun hk=>h (List.mem_cons_of_mem _ hk)
    simp only [seen,List.map_cons,List.cons_append,mput,if_neg h1] at this ⊢
    rw [this]
theorem mput_in {α:Type} {eq:α→α→Bool} (he:∀ x y,eq x y=true↔x=y) {k:α}:∀ {ks:List α},k∈ks→mput eq (seen ks) k true=seen ks
  | x :: ks,h=>by
    simp only [seen,List.map_cons,mput]
    by_cases e:eq k x=true
    · rw [if_pos e]
    · rw [if_neg e]
      have hk:k∈ks:=by
        rcases List.mem_cons.1 h with h | h
        · exact absurd ((he _ _).2 h) e
        · exact h
      have:=mput_in he hk
      simp only [seen] at this
      rw [this]
theorem eqInt (x y:Int):Ty.eqT (.int .i64) x y=true↔x=y:=Ty.eqT_iff (c:=.int .i64) rfl x y
theorem eqStr (x y:List UInt8):Ty.eqT .str x y=true↔x=y:=Ty.eqT_iff (c:=.str) rfl x y
theorem eqMac (x y:List Int):Ty.eqT cMAC x y=true↔x=y:=Ty.eqT_iff (c:=cMAC) rfl x y
theorem eqAddr (x y:Addr):Ty.eqT cAddr x y=true↔x=y:=Ty.eqT_iff (c:=cAddr) rfl x y
theorem eqAddr_f {x y:Addr} (h:x≠y):Ty.eqT cAddr x y=false:=by
  cases hb:Ty.eqT cAddr x y with
  | false=>rfl
  | true=>exact absurd ((eqAddr x y).1 hb) h
theorem f170_ok {k:Int} {ks:List Int} (h:k∉ks):f170 k (seen ks)=some (true,seen (ks++[k])):=by
  simp only [f170,mget_seen eqInt h,mput_seen eqInt h];rfl
theorem f171_ok {k:List UInt8} {ks:List (List UInt8)} (h:k∉ks):f171 k (seen ks)=some (true,seen (ks++[k])):=by
  simp only [f171,mget_seen eqStr h,mput_seen eqStr h];rfl
theorem f172_ok {k:List Int} {ks:List (List Int)} (h:k∉ks):f172 k (seen ks)=some (true,seen (ks++[k])):=by
  simp only [f172,mget_seen eqMac h,mput_seen eqMac h];rfl
theorem f173_ok {k:Addr} {ks:List Addr} (h:k∉ks):f173 k (seen ks)=some (true,seen (ks++[k])):=by
  simp only [f173,mget_seen eqAddr h,mput_seen eqAddr h];rfl
theorem fresh_at {α β:Type} {κ:α→β} {B:List β} {l:List α} (h:(B++l.map κ).Nodup) {i:Nat} {a:α} (ha:l[i]? = some a):κ a∉B++(l.take i).map κ:=fun hm=>by
  have hl:l=l.take i++a :: l.drop (i+1):=by
    obtain⟨hi,he⟩:=List.getElem?_eq_some_iff.1 ha
    rw [← he,← List.drop_eq_getElem_cons hi,List.take_append_drop]
  rw [hl,List.map_append,← List.append_assoc] at h
  have:=(List.nodup_append.1 h).2.2 _ hm (κ a) (List.mem_cons_self ..)
  exact this rfl
theorem fresh_flat {α β:Type} {κ:α→List β} {l:List α} (h:(l.map κ).flatten.Nodup) {i:Nat} {a:α} (ha:l[i]? = some a):(((l.take i).map κ).flatten++κ a).Nodup:=by
  have hl:l=l.take i++[a]++l.drop (i+1):=by
    obtain⟨hi,he⟩:=List.getElem?_eq_some_iff.1 ha
    rw [List.append_assoc,← he,List.singleton_append,← List.drop_eq_getElem_cons hi,List.take_append_drop]
  rw [hl,List.map_append,List.flatten_append] at h
  have:=(List.nodup_append.1 h).1
  simpa using this
theorem take_map {α β:Type} {κ:α→β} {l:List α} {i:Nat} {a:α} (ha:l[i]? = some a):(l.take (i+1)).map κ=(l.take i).map κ++[κ a]:=by
  rw [List.take_add_one,ha];simp
theorem take_flat {α β:Type} {κ:α→List β} {l:List α} {i:Nat} {a:α} (ha:l[i]? = some a):((l.take (i+1)).map κ).flatten=((l.take i).map κ).flatten++κ a:=by
  rw [take_map ha,List.flatten_append];simp
-- what ports bear
def pmacs (p:Port):List MAC:=p.2.2.2.1
def paddrs (p:Port):List Addr:=[p.2.2.2.2.1,p.2.2.2.2.2].filter fun a => !(Ty.eqT cAddr a zeroA)
theorem pmacs_of {n:Nat} {p:Port} (h:IsPort n p):pmacs p=[macT (100+n)]∨pmacs p=[macT (100+n),macT (200+n)]:=by
  obtain⟨o,sw,sp,two,vc,_,_,_,_,rfl⟩:=h
  cases two
  · exact .inl rfl
  · exact .inr rfl
theorem addrs_of {n:Nat} {p:Port} (h:IsPort n p):(p.2.2.2.2.1=fourT n∧p.2.2.2.2.2=zeroA)∨(p.2.2.2.2.1=zeroA∧p.2.2.2.2.2=sixT n)∨(p.2.2.2.2.1=fourT n∧p.2.2.2.2.2=sixT n):=by
  obtain⟨o,sw,sp,two,vc,_,_,_,hv,rfl⟩:=h
  match vc,hv with
  | 0,_=>exact .inl ⟨rfl,rfl⟩
  | 1,_=>exact .inr (.inl ⟨rfl,rfl⟩)
  | 2,_=>exact .inr (.inr ⟨rfl,rfl⟩)
theorem macT_inj {a b:Nat} (h:macT a=macT b):a=b:=by simp [macT] at h;omega
theorem four_ne {n:Nat}:fourT n≠zeroA:=fun h=>by simp [fourT,zeroA] at h;omega
theorem six_ne {n:Nat}:sixT n≠zeroA:=fun h=>by simp [sixT,zeroA] at h
theorem four_six {n m:Nat}:fourT n≠sixT m:=fun h=>by simp [fourT,sixT] at h
theorem four_inj {n m:Nat} (h:fourT n=fourT m):n=m:=by simp [fourT] at h;omega
theorem six_inj {n m:Nat} (h:sixT n=sixT m):n=m:=by simp [sixT] at h;omega
theorem paddrs_of {n:Nat} {p:Port} (h:IsPort n p):paddrs p=[fourT n]∨paddrs p=[sixT n]∨paddrs p=[fourT n,sixT n]:=by
  have e4:Ty.eqT cAddr (fourT n) zeroA=false:=eqAddr_f four_ne
  have e6:Ty.eqT cAddr (sixT n) zeroA=false:=eqAddr_f six_ne
  have e0:Ty.eqT cAddr zeroA zeroA=true:=(eqAddr _ _).2 rfl
  unfold paddrs
  rcases addrs_of h with ⟨h1,h2⟩ | ⟨h1,h2⟩ | ⟨h1,h2⟩<;>rw [h1,h2]<;>simp [List.filter,e4,e6,e0]
theorem id_of {n:Nat} {p:Port} (h:IsPort n p):∃ o:Nat,o<3∧p.1=((3*n+o:Nat):Int):=by
  obtain⟨o,sw,sp,two,vc,ho,_,_,_,rfl⟩:=h
  exact⟨o,ho,rfl⟩
def Row (l:List Port):Prop:=l.length≤14∧∀ (i:Nat) p,l[i]? = some p→IsPort (i+1) p
theorem Row.pair {l:List Port} (h:Row l) {R:Port→Port→Prop} (hR:∀ n m p q,n<m→m≤14→IsPort n p→IsPort m q→R p q):l.Pairwise R:=by
  rw [List.pairwise_iff_getElem]
  intro i j hi hj hij
  exact hR (i+1) (j+1) _ _ (by omega) (by have:=h.1;omega) (h.2 i _ (List.getElem?_eq_getElem hi)) (h.2 j _ (List.getElem?_eq_getElem hj))
theorem Row.ids {l:List Port} (h:Row l):(l.map fun p=>p.1).Nodup:=by
  unfold List.Nodup
  rw [List.pairwise_map]
  refine h.pair fun n m p q hnm _ hp hq e => ?_
  obtain⟨o,ho,h1⟩:=id_of hp
  obtain⟨o',ho',h2⟩:=id_of hq
  rw [h1,h2] at e
  omega
theorem Row.macs {l:List Port} (h:Row l):(l.map pmacs).flatten.Nodup:=by
  unfold List.Nodup
  rw [List.pairwise_flatten,List.pairwise_map]
  refine⟨fun ms hms => ?_,h.pair fun n m p q hnm hm hp hq x hx y hy e => ?_⟩
  · obtain⟨p,hp,rfl⟩:=List.mem_map.1 hms
    obtain⟨i,hi⟩:=List.getElem?_of_mem hp
    rcases pmacs_of (h.2 i p hi) with e | e<;>rw [e]
    · simp
    · simp only [List.pairwise_cons,List.mem_singleton,forall_eq,List.Pairwise.nil,and_true,List.not_mem_nil,false_imp_iff,implies_true]
      exact fun e=>by have:=macT_inj e;omega
  · subst e
    have h1:x=macT (100+n)∨x=macT (200+n):=by
      rcases pmacs_of hp with e | e<;>rw [e] at hx<;>simp at hx
      · exact .inl hx
      · exact hx
    have h2:x=macT (100+m)∨x=macT (200+m):=by
      rcases pmacs_of hq with e | e<;>rw [e] at hy<;>simp at hy
      · exact .inl hy
      · exact hy
    rcases h1 with h1 | h1<;>rcases h2 with h2 | h2<;>(have:=macT_inj (h1.symm.trans h2);omega)
theorem Row.addrs {l:List Port} (h:Row l):(l.map paddrs).flatten.Nodup:=by
  unfold List.Nodup
  rw [List.pairwise_flatten,List.pairwise_map]
  refine⟨fun ms hms => ?_,h.pair fun n m p q hnm hm hp hq x hx y hy e => ?_⟩
  · obtain⟨p,hp,rfl⟩:=List.mem_map.1 hms
    obtain⟨i,hi⟩:=List.getElem?_of_mem hp
    rcases paddrs_of (h.2 i p hi) with e | e | e<;>rw [e]
    · simp
    · simp
    · simp only [List.pairwise_cons,List.mem_singleton,forall_eq,List.Pairwise.nil,and_true,List.not_mem_nil,false_imp_iff,implies_true]
      exact four_six
  · subst e
    have h1:x=fourT n∨x=sixT n:=by
      rcases paddrs_of hp with e | e | e<;>rw [e] at hx<;>simp at hx
      · exact .inl hx
      · exact .inr hx
      · exact hx
    have h2:x=fourT m∨x=sixT m:=by
      rcases paddrs_of hq with e | e | e<;>rw [e] at hy<;>simp at hy
      · exact .inl hy
      · exact .inr hy
      · exact hy
    rcases h1 with h1 | h1<;>rcases h2 with h2 | h2
    · have:=four_inj (h1.symm.trans h2);omega
    · exact four_six (h1.symm.trans h2)
    · exact four_six (h2.symm.trans h1)
    · have:=six_inj (h1.symm.trans h2);omega
theorem Made.row {d:Database} (h:Made d):Row (allP (owners d)):=⟨h.few.1,fun i p hi=>(h.isPort hi).1⟩
end Go.Top
namespace Go.Top
open Go Go.Vc
theorem len_of {α:Type} {l:List α} {i:Nat} {a:α} (h:l[i]? = some a):i<l.length:=(List.getElem?_eq_some_iff.1 h).1
-- fits
theorem f162_ok {m:Member} (h:OwnOk m):f162 m=some true:=by
  have hl:=h.few
  have hl':1≤m.2.2.2.2.2.length∧m.2.2.2.2.2.length≤2:=hl
  unfold f162
  rw [loopF_list (l:=m.2.2.2.2.2) (x:=.inl ()) (by omega) (fun i a ha=>by
    obtain⟨n,_,_,hn⟩:=h.pts a (List.mem_of_getElem? ha)
    have hm:f163 (a.2.2.2.1.length:Int) 1 2=some true:=by
      have:pmacs a=a.2.2.2.1:=rfl
      rw [← this]
      rcases pmacs_of hn with e | e<;>rw [e]<;>rfl
    simp only [f162L0,lt_len ha,if_true,idx_nat ha,bind_some',hm,Bool.not_true,Bool.false_eq_true,if_false,le_len ha (by omega)]) (by
    simp only [f162L0,at_len,Bool.false_eq_true,if_false])]
  simp only [bind_some',caseT,f163_t (show(1:Int)≤(m.2.2.2.2.2.length:Int) by omega) (show(m.2.2.2.2.2.length:Int)≤4 by omega)]
theorem f109_ok {d:Database} (h:Made d):f109 d=some true:=by
  have hf:=h.few
  have hs:=h.ls
  have hm:=h.lm
  unfold f109
  rw [f117_ok (by omega) (by omega),bind_some',loopF_list (l:=owners d) (x:=.inl ()) (by omega) (fun i a ha=>by
    simp only [f109L0,lt_len ha,if_true,idx_nat ha,bind_some',f162_ok (h.own a (List.mem_of_getElem? ha)),Bool.not_true,Bool.false_eq_true,if_false,le_len ha (by omega)]) (by
    simp only [f109L0,at_len,Bool.false_eq_true,if_false])]
  simp only [bind_some',caseT,decide_eq_true (show(d.2.2.1.length:Int)≤4 by omega),decide_eq_true (show(d.2.2.2.length:Int)≤32 by omega),if_true]
-- alone
def lan4:Prefix:=((false,0,3221225984),24)
def lan6:Prefix:=((true,2306139568115548160,0),64)
theorem lan4_ok:f164 lan4=some true:=by kernel_rfl
theorem lan6_ok:f164 lan6=some true:=by kernel_rfl
theorem f110_ok {d:Database} (h:Made d):f110 d=some true:=by
  have hf:=h.few
  have hs:=h.ls
  have hm:=h.lm
  have loop:loopF (f110L0 (owners d)) 0=some (Sum.inl ():Unit⊕Unit):=loopF_list (l:=owners d) (x:=Sum.inl ()) (by omega) (fun i a ha=>by
    have ho:=h.own a (List.mem_of_getElem? ha)
    obtain⟨x,hx,e4⟩:=ho.m4
    obtain⟨y,hy,e6⟩:=ho.m6
    have a1:=f163_t ho.asn.1 (show a.1≤4294967295 from Int.le_trans ho.asn.2 (by decide))
    have a2:=f165_ok (List.mem_append_left _ ho.name)
    have a3:f163 a.2.2.2.1 0 512=some true:=f163_t (by rw [e4];omega) (by rw [e4];omega)
    have a4:f163 a.2.2.2.2.1 0 512=some true:=f163_t (by rw [e6];omega) (by rw [e6];omega)
    have hfew:(mports a).length≤2:=ho.few.2
    have a5:f166 a.2.2.2.2.2=some false:=f166_ok (ps:=mports a) (by omega) fun p hp=>by
      obtain⟨n,n1,n2,hn⟩:=ho.pts p hp
      exact f168_ok hn n1 n2
    have a6:a.2.2.1=[]∨(a.2.2.1==([]:List UInt8))=false∧f165 a.2.2.1=some true:=by
      have hq:=ho.set
      simp only [sets,List.mem_cons,List.not_mem_nil,or_false] at hq
      rcases hq with e | e | e
      · exact .inl e
      · exact .inr (by rw [e];exact⟨rfl,f165_ok (by decide)⟩)
      · exact .inr (by rw [e];exact⟨rfl,f165_ok (by decide)⟩)
    have a7:(a.2.2.1==([45]:List UInt8))=false:=by
      have hq:=ho.set
      simp only [sets,List.mem_cons,List.not_mem_nil,or_false] at hq
      rcases hq with e | e | e<;>rw [e]<;>rfl
    rcases a6 with a6 | ⟨a6,a8⟩
    · have a6:(a.2.2.1==([]:List UInt8))=true:=by rw [a6];rfl
      simp only [f110L0,lt_len ha,if_true,idx_nat ha,bind_some',a1,a2,a3,a4,a5,a6,a7,Bool.not_true,Bool.not_false,Bool.false_eq_true,if_false,le_len ha (by omega)]
    · simp only [f110L0,lt_len ha,if_true,idx_nat ha,bind_some',a1,a2,a3,a4,a5,a6,a7,a8,Bool.not_true,Bool.not_false,Bool.false_eq_true,if_false,le_len ha (by omega)]) (by
    simp only [f110L0,at_len,Bool.false_eq_true,if_false])
  have e4:d.1=lan4:=h.lan4
  have e6:d.2.1=lan6:=h.lan6
  have w4:f163 lan4.2 8 30=some true:=rfl
  have w6:f163 lan6.2 32 64=some true:=rfl
  have b4:lan4.1.1=false:=rfl
  have b6:lan6.1.1=true:=rfl
  simp only [f110,e4,e6,lan4_ok,lan6_ok,w4,w6,b4,b6,bind_some',Bool.not_true,Bool.not_false,Bool.false_eq_true,if_false,f117_ok (show d.2.2.1.length≤1000 by omega) (show d.2.2.2.length≤1000 by omega),loop,caseT]
-- inside
theorem inside4 {n:Nat} (h1:1≤n) (h2:n≤14):f146 lan4 (fourT n)=some true∧Ty.eqT cAddr (fourT n) lan4.1=false∧Ty.eqT cAddr (fourT n) (false,0,3221226239)=false:=by
  have:(List.range 15).all (fun n=>n==0 || (f146 lan4 (fourT n)==some true&&(Ty.eqT cAddr (fourT n) lan4.1==false&&Ty.eqT cAddr (fourT n) (false,0,3221226239)==false)))=true:=by kernel_rfl
  have:=allRange this (show n<15 by omega)
  simp only [Bool.or_eq_true,Bool.and_eq_true,beq_iff_eq] at this
  rcases this with h | h
  · omega
  · exact h
theorem inside6 {n:Nat} (h1:1≤n) (h2:n≤14):f146 lan6 (sixT n)=some true∧Ty.eqT cAddr (sixT n) lan6.1=false:=by
  have:(List.range 15).all (fun n=>n==0 || (f146 lan6 (sixT n)==some true&&Ty.eqT cAddr (sixT n) lan6.1==false))=true:=by kernel_rfl
  have:=allRange this (show n<15 by omega)
  simp only [Bool.or_eq_true,Bool.and_eq_true,beq_iff_eq] at this
  rcases this with h | h
  · omega
  · exact h
theorem last4:f169 lan4=some (false,0,3221226239):=by kernel_rfl
theorem f111_ok {d:Database} (h:Made d):f111 d=some true:=by
  have hf:=h.few
  have hs:=h.ls
  have hm:=h.lm
  have e4:d.1=lan4:=h.lan4
  have e6:d.2.1=lan6:=h.lan6
  have loop:loopF (f111L0 d (allP (owners d))) 0=some (Sum.inl ():Unit⊕Unit):=loopF_list (l:=allP (owners d)) (x:=Sum.inl ()) (by omega) (fun i a ha=>by
    obtain⟨hp,hi⟩:=h.isPort ha
    obtain⟨c1,c2,c3⟩:=inside4 (show 1≤i+1 by omega) hi
    obtain⟨c4,c5⟩:=inside6 (show 1≤i+1 by omega) hi
    have n4:Ty.eqT cAddr (fourT (i+1)) (false,0,0)=false:=eqAddr_f four_ne
    have n6:Ty.eqT cAddr (sixT (i+1)) (false,0,0)=false:=eqAddr_f six_ne
    have n0:Ty.eqT cAddr zeroA (false,0,0)=true:=(eqAddr _ _).2 rfl
    rcases addrs_of hp with ⟨h1,h2⟩ | ⟨h1,h2⟩ | ⟨h1,h2⟩ <;>
    simp only [f111L0,lt_len ha,if_true,idx_nat ha,bind_some',jn_eq,h1,h2,e4,e6,n4,n6,n0,c1,c2,c3,c4,c5,last4,Bool.not_true,Bool.not_false,Bool.false_eq_true,if_false,le_len ha (by omega)]) (by
    simp only [f111L0,at_len,Bool.false_eq_true,if_false])
  simp only [f111,f129_ok (show d.2.2.1.length≤1000 by omega) (show d.2.2.2.length≤1000 by omega) (by omega),bind_some',loop,caseT]
end Go.Top
namespace Go.Top
open Go Go.Vc
-- names and numbers of owners
theorem Made.asns {d:Database} (h:Made d):((if d.2.2.1.length=0 then ([]:List Int) else [65000])++d.2.2.2.map fun(m:Member)=>m.1).Nodup:=by
  have hm:=h.lm
  have hmem:(d.2.2.2.map fun m=>m.1).Nodup:=by
    unfold List.Nodup
    rw [List.pairwise_map,List.pairwise_iff_getElem]
    intro i j hi hj hij e
    rw [(h.mem i _ (List.getElem?_eq_getElem hi)).asn,(h.mem j _ (List.getElem?_eq_getElem hj)).asn] at e
    simp only [nmM] at e
    omega
  refine List.nodup_append.2 ⟨by split<;>simp,hmem,fun x hx y hy e => ?_⟩
  subst e
  obtain⟨m,hmm,rfl⟩:=List.mem_map.1 hy
  obtain⟨i,hi⟩:=List.getElem?_of_mem hmm
  have:=len_of hi
  have hx2:m.1=65000:=by
    split at hx
    · cases hx
    · simpa using hx
  rw [(h.mem i m hi).asn] at hx2
  simp only [nmM] at hx2
  omega
theorem Made.names {d:Database} (h:Made d):((owners d).map fun m=>m.2.1).Nodup:=by
  have hs:=h.ls
  have hm:=h.lm
  have key:(owners d).map (fun m=>m.2.1)=([[114,115,45,49],[114,115,45,50]]:List (List UInt8)).take d.2.2.1.length++([[97],[98,45,50],[67,58,51],[100,101,108,116,97],[101]]:List (List UInt8)).take d.2.2.2.length:=by
    unfold owners
    rw [List.map_append]
    congr 1
    · apply List.ext_getElem
      · simp;omega
      · intro i h1 h2
        simp only [List.getElem_map,List.getElem_take]
        simp at h1
        rw [(h.srv i _ (List.getElem?_eq_getElem h1)).name]
        have:i<2:=by omega
        match i,this with
        | 0,_=>rfl
        | 1,_=>rfl
    · apply List.ext_getElem
      · simp;omega
      · intro i h1 h2
        simp only [List.getElem_map,List.getElem_take]
        simp at h1
        rw [(h.mem i _ (List.getElem?_eq_getElem h1)).name]
        have:i<5:=by omega
        match i,this with
        | 0,_=>rfl
        | 1,_=>rfl
        | 2,_=>rfl
        | 3,_=>rfl
        | 4,_=>rfl
  rw [key]
  have:(([[114,115,45,49],[114,115,45,50]]:List (List UInt8))++([[97],[98,45,50],[67,58,51],[100,101,108,116,97],[101]]:List (List UInt8))).Nodup:=by decide
  refine this.sublist ?_
  exact(List.take_sublist _ _).append (List.take_sublist _ _)
theorem Made.srv_asn {d:Database} (h:Made d) {i:Nat} {m:Member} (hi:d.2.2.1[i]? = some m):m.1=65000:=(h.srv i m hi).asn
-- different
theorem f112_0 {d:Database} (h:Made d):loopF (f112L0 d) (0,[])=some (Sum.inl (seen (if d.2.2.1.length=0 then [] else [65000]))):=by
  have hs:=h.ls
  refine loopF_range (tb:=f112L0 d) (fun i=>((i:Int),seen (if i=0 then ([]:List Int) else [65000]))) d.2.2.1.length (by omega) (fun i hi => ?_) ?_
  · have ha:=List.getElem?_eq_getElem hi
    have hasn:=h.srv_asn ha
    cases i with
    | zero =>
      have hlt:=lt_len ha
      have hnx:=idx_nat ha
      simp only [f112L0,hlt,if_true,hnx,bind_some',decide_eq_false (show ¬ (0:Int)<((0:Nat):Int) by decide),Bool.false_eq_true,if_false,hasn,le_len ha (by omega)]
      rfl
    | succ i =>
      have h0:0<d.2.2.1.length:=by omega
      have hb:=List.getElem?_eq_getElem h0
      have hasn0:=h.srv_asn hb
      have hb':idx d.2.2.1 0=some d.2.2.1[0]:=idx_nat (k:=0) hb
      have e1:mput (Ty.eqT (.int .i64)) (seen [65000]) 65000 true=seen [65000]:=mput_in eqInt (by simp)
      simp only [f112L0,lt_len ha,if_true,idx_nat ha,bind_some',decide_eq_true (show(0:Int)<((i+1:Nat):Int) by omega),hb',hasn,hasn0,show((65000:Int) != 65000)=false from rfl,Bool.false_eq_true,if_false,Nat.add_one_ne_zero,e1,le_len ha (by omega)]
  · simp only [f112L0,at_len,Bool.false_eq_true,if_false]
theorem f112_1 {d:Database} (h:Made d):loopF (f112L1 d) (true,0,seen (if d.2.2.1.length=0 then [] else [65000]))=some true:=by
  have hm:=h.lm
  have hn:=h.asns
  generalize (if d.2.2.1.length=0 then ([]:List Int) else [65000])=B at hn ⊢
  have:=loopF_range (tb:=f112L1 d) (x:=true) (fun i=>(true,(i:Int),seen (B++(d.2.2.2.take i).map fun m=>m.1))) d.2.2.2.length (by omega) (fun i hi=>by
    have ha:=List.getElem?_eq_getElem hi
    have hf:=fresh_at hn ha
    simp only [f112L1,lt_len ha,if_true,idx_nat ha,bind_some',f170_ok hf,le_len ha (by omega),take_map ha,← List.append_assoc]) (by
    simp only [f112L1,at_len,Bool.false_eq_true,if_false])
  simpa using this
theorem f112_2 {d:Database} (h:Made d):loopF (f112L2 (owners d)) (true,0,[])=some true:=by
  have hf:=h.few
  have hn:=h.names
  have:=loopF_range (tb:=f112L2 (owners d)) (x:=true) (fun i=>(true,(i:Int),seen (((owners d).take i).map fun m=>m.2.1))) (owners d).length (by omega) (fun i hi=>by
    have ha:=List.getElem?_eq_getElem hi
    have hf:=fresh_at (B:=[]) (by simpa using hn) ha
    rw [List.nil_append] at hf
    simp only [f112L2,lt_len ha,if_true,idx_nat ha,bind_some',f171_ok hf,le_len ha (by omega),take_map ha]) (by
    simp only [f112L2,at_len,Bool.false_eq_true,if_false])
  exact this
theorem f112_4 {p:Port} {B:List MAC} (hn:(B++pmacs p).Nodup) (hl:(pmacs p).length≤100):loopF (f112L4 p) (true,0,seen B)=some (true,seen (B++pmacs p)):=by
  have hn':(B++(pmacs p).map fun x=>x).Nodup:=by simpa using hn
  have:=loopF_range (tb:=f112L4 p) (x:=(true,seen (B++pmacs p))) (fun i=>(true,(i:Int),seen (B++((pmacs p).take i).map fun x=>x))) (pmacs p).length (by omega) (fun i hi=>by
    have ha:=List.getElem?_eq_getElem hi
    have hf:=fresh_at (κ:=fun x=>x) hn' ha
    have ha':p.2.2.2.1[i]? = some (pmacs p)[i]:=ha
    simp only [f112L4,lt_len ha',if_true,idx_nat ha',bind_some',f172_ok hf,le_len ha (by omega),take_map (κ:=fun x=>x) ha,← List.append_assoc]) (by
    have:decide (((pmacs p).length:Int)<(p.2.2.2.1.length:Int))=false:=at_len (pmacs p)
    simp only [f112L4,this,Bool.false_eq_true,if_false,List.take_length,List.map_id'])
  simpa using this
theorem f112_5 {p:Port} {B:List Addr} (hn:(B++paddrs p).Nodup):loopF (f112L5 p 2) (true,0,seen B)=some (true,seen (B++paddrs p)):=by
  have z:∀ a:Addr,Ty.eqT cAddr a (false,0,0)=Ty.eqT cAddr a zeroA:=fun _=>rfl
  have step:∀ (i:Nat) (a:Addr) (B:List Addr),[p.2.2.2.2.1,p.2.2.2.2.2][i]? = some a→((B++[a].filter fun a => !(Ty.eqT cAddr a zeroA)).Nodup)→f112L5 p 2 (true,(i:Int),seen B)=some (.inr (true,((i+1:Nat):Int),seen (B++[a].filter fun a => !(Ty.eqT cAddr a zeroA)))):=fun i a B ha hB=>by
    have hi:i<2:=len_of ha
    have hlt:decide ((i:Int)<2)=true:=decide_eq_true (by omega)
    have hs:w64 ((i:Int)+1)=((i+1:Nat):Int):=w64_succ (by omega)
    cases hz:Ty.eqT cAddr a zeroA with
    | true=>simp only [f112L5,hlt,if_true,idx_nat ha,bind_some',z,hz,hs,List.filter,Bool.not_true,List.append_nil]
    | false =>
      have hf:a∉B:=fun hm=>by
        simp only [List.filter,hz,Bool.not_false] at hB
        exact(List.nodup_append.1 hB).2.2 a hm a (by simp) rfl
      simp only [f112L5,hlt,if_true,idx_nat ha,bind_some',z,hz,Bool.false_eq_true,if_false,f173_ok hf,hs,List.filter,Bool.not_false]
  have hsplit:paddrs p=([p.2.2.2.2.1].filter fun a => !(Ty.eqT cAddr a zeroA))++([p.2.2.2.2.2].filter fun a => !(Ty.eqT cAddr a zeroA)):=by
    unfold paddrs;rw [← List.filter_append];rfl
  rw [hsplit,← List.append_assoc] at hn ⊢
  refine loopF_of (n:=3) (by omega) ?_
  have s0:=step 0 _ B rfl (List.nodup_append.1 hn).1
  have s1:=step 1 _ (B++[p.2.2.2.2.1].filter fun a => !(Ty.eqT cAddr a zeroA)) rfl hn
  have s2:f112L5 p 2 (true,((1+1:Nat):Int),seen (B++([p.2.2.2.2.1].filter fun a => !(Ty.eqT cAddr a zeroA))++([p.2.2.2.2.2].filter fun a => !(Ty.eqT cAddr a zeroA))))=some (.inl (true,seen (B++([p.2.2.2.2.1].filter fun a => !(Ty.eqT cAddr a zeroA))++([p.2.2.2.2.2].filter fun a => !(Ty.eqT cAddr a zeroA))))):=rfl
  have i1:iter (f112L5 p 2) 1 (true,((1+1:Nat):Int),seen (B++([p.2.2.2.2.1].filter fun a => !(Ty.eqT cAddr a zeroA))++([p.2.2.2.2.2].filter fun a => !(Ty.eqT cAddr a zeroA))))=some (true,seen (B++([p.2.2.2.2.1].filter fun a => !(Ty.eqT cAddr a zeroA))++([p.2.2.2.2.2].filter fun a => !(Ty.eqT cAddr a zeroA)))):=by rw [iter,s2];rfl
  have i2:iter (f112L5 p 2) 2 (true,((1:Nat):Int),seen (B++([p.2.2.2.2.1].filter fun a => !(Ty.eqT cAddr a zeroA))))=some (true,seen (B++([p.2.2.2.2.1].filter fun a => !(Ty.eqT cAddr a zeroA))++([p.2.2.2.2.2].filter fun a => !(Ty.eqT cAddr a zeroA)))):=by rw [iter,s1];exact i1
  rw [iter,show f112L5 p 2 (true,0,seen B)=_ from s0]
  exact i2
theorem f112_3 {l:List Port} (h:Row l):loopF (f112L3 l) (true,0,[],[],[])=some true:=by
  have hl:=h.1
  have:=loopF_range (tb:=f112L3 l) (x:=true) (fun i=>(true,(i:Int),seen ((l.take i).map fun p=>p.1),seen ((l.take i).map pmacs).flatten,seen ((l.take i).map paddrs).flatten)) l.length (by omega) (fun i hi=>by
    have ha:=List.getElem?_eq_getElem hi
    have hf:=fresh_at (B:=[]) (by simpa using h.ids) ha
    rw [List.nil_append] at hf
    have hm:=fresh_flat h.macs ha
    have had:=fresh_flat h.addrs ha
    have hml:(pmacs l[i]).length≤100:=by rcases pmacs_of (h.2 i _ ha) with e | e<;>rw [e]<;>simp
    simp only [f112L3,lt_len ha,if_true,idx_nat ha,bind_some',jn_eq,f170_ok hf,f112_4 hm hml,show(([l[i].2.2.2.2.1,l[i].2.2.2.2.2]:List Addr).length:Int)=2 from rfl,f112_5 had,le_len ha (by omega),take_map ha,List.flatten_append,List.flatten_cons,List.flatten_nil,List.append_nil]) (by
    simp only [f112L3,at_len,Bool.false_eq_true,if_false])
  exact this
theorem f112_ok {d:Database} (h:Made d):f112 d=some true:=by
  have hf:=h.few
  have hs:=h.ls
  have hm:=h.lm
  have h1:=f129_ok (show d.2.2.1.length≤1000 by omega) (show d.2.2.2.length≤1000 by omega) (by omega)
  have h0:=f117_ok (show d.2.2.1.length≤1000 by omega) (show d.2.2.2.length≤1000 by omega)
  simp only [f112,f112_0 h,bind_some',caseT,f112_1 h,h0,f112_2 h,h1,f112_3 h.row]
theorem f63_ok {d:Database} (h:Made d):f63 d=some 0:=by
  simp only [f63,f109_ok h,f110_ok h,f111_ok h,f112_ok h,bind_some',Bool.not_true,Bool.false_eq_true,if_false]
end Go.Top
namespace Go.Top
open Go Go.Vc Go.Lib
def pw:List Int:=pow10Tab
def deBr:List Int:=[0,1,56,2,57,49,28,3,61,58,42,50,38,29,17,4,62,47,59,36,45,43,51,22,53,39,33,30,24,18,12,5,63,55,48,27,60,41,37,16,46,35,44,21,52,32,23,11,54,26,40,15,34,20,31,10,25,14,19,9,13,8,7,6]
def tokB (s:List UInt8):Bool:=decide (1≤s.length)&&decide (s.length≤60)&&s.all fun b=>b != 10&&b != 32&&b != 44
def dashB (s:List UInt8):Bool:=s != [45]
-- numbers
def nums:List Nat:=List.range 101++[400,65000]
theorem num_tab:nums.all (fun n=>tokB (itoaT n)&&(hAtoi (itoaT n)==some (n:Int)&&(hItoa (n:Int) pw==some (itoaT n))))=true:=by kernel_rfl
-- stations
def macTx (k:Nat):List UInt8:=(f120 (macT k)).getD []
theorem mac_tab:(List.range 256).all (fun k=>tokB (macTx k)&&(f120 (macT k)==some (macTx k)&&f189 (macTx k)==some (0,macT k)))=true:=by kernel_rfl
-- addresses
def tx4 (n:Nat):List UInt8:=(f121 (fourT n) pw deBr).getD []
def tx6 (n:Nat):List UInt8:=(f121 (sixT n) pw deBr).getD []
theorem four_tab (m:Int):(List.range 15).all (fun k=>tokB (tx4 k)&&(dashB (tx4 k)&&(f121 (fourT k) pw deBr==some (tx4 k)&&f184 (tx4 k) m pw==some (0,fourT k))))=true:=by kernel_rfl
theorem six_tab (m:Int):(List.range 15).all (fun k=>tokB (tx6 k)&&(dashB (tx6 k)&&(f121 (sixT k) pw deBr==some (tx6 k)&&f184 (tx6 k) m pw==some (0,sixT k))))=true:=by kernel_rfl
def l4:List UInt8:=(f116 lan4 pw deBr).getD []
def l6:List UInt8:=(f116 lan6 pw deBr).getD []
theorem l4_tab (m:Int):(tokB l4&&(f116 lan4 pw deBr==some l4&&f124 l4 m pw==some (0,lan4)))=true:=by kernel_rfl
theorem l6_tab (m:Int):(tokB l6&&(f116 lan6 pw deBr==some l6&&f124 l6 m pw==some (0,lan6)))=true:=by kernel_rfl
end Go.Top
namespace Go.Top
open Go Go.Vc Go.Lib
-- texts
theorem s2b_app (a b:List UInt8):s2bT (a++b)=s2bT a++s2bT b:=by simp [s2bT]
theorem s2b_len (a:List UInt8):(s2bT a).length=a.length:=by simp [s2bT]
theorem b2s_s2b (a:List UInt8):b2sT (s2bT a)=a:=by
  simp only [b2sT,s2bT,List.map_map]
  induction a with
  | nil=>rfl
  | cons x a ih=>simp only [List.map_cons,ih,Function.comp,Int.toNat_natCast,UInt8.ofNat_toNat]
structure TokW (w:List UInt8):Prop where
  lo:1≤w.length
  hi:w.length≤80
  nl:10∉w
  sp:32∉w
theorem TokW.of {w:List UInt8} (h:tokB w=true):TokW w∧44∉w∧w.length≤60:=by
  simp only [tokB,Bool.and_eq_true,decide_eq_true_eq,List.all_eq_true,bne_iff_ne,ne_eq] at h
  obtain⟨⟨h1,h2⟩,h3⟩:=h
  exact⟨⟨h1,by omega,fun hm=>(h3 _ hm).1.1 rfl,fun hm=>(h3 _ hm).1.2 rfl⟩,fun hm=>(h3 _ hm).2 rfl,h2⟩
theorem join_len {B:Nat} {c:UInt8}:∀ {ws:List (List UInt8)},(∀ w∈ws,w.length≤B)→(join ws [c]).length≤ws.length*(B+1)
  | [],_=>by simp [join_nil]
  | w :: ws,h=>by
    have key:∀ ws:List (List UInt8),(∀ w∈ws,w.length≤B)→(joinTail [c] ws).length≤ws.length*(B+1):=by
      intro ws
      induction ws with
      | nil=>intro _;simp [joinTail]
      | cons w ws ih =>
        intro h
        have h1:=ih fun x hx=>h x (List.mem_cons_of_mem _ hx)
        have h2:=h w (List.mem_cons_self ..)
        simp only [joinTail,List.map_cons,List.flatten_cons,List.length_append,List.length_cons,List.length_nil,Nat.succ_mul] at h1 ⊢
        omega
    have h1:=key ws fun x hx=>h x (List.mem_cons_of_mem _ hx)
    have h2:=h w (List.mem_cons_self ..)
    rw [join_cons,List.length_append,List.length_cons,Nat.succ_mul]
    omega
theorem join_not {c x:UInt8} (hx:x≠c):∀ {ws:List (List UInt8)},(∀ w∈ws,x∉w)→x∉join ws [c]
  | [],_=>by simp [join_nil]
  | w :: ws,h=>by
    rw [join_cons]
    intro hm
    rcases List.mem_append.1 hm with hm | hm
    · exact h w (List.mem_cons_self ..) hm
    · simp only [joinTail,List.mem_flatten,List.mem_map] at hm
      obtain⟨l,⟨w',hw',rfl⟩,hl⟩:=hm
      rcases List.mem_append.1 hl with hl | hl
      · simp at hl;exact hx hl
      · exact h w' (List.mem_cons_of_mem _ hw') hl
theorem split_none {c:UInt8}:∀ {w:List UInt8},c∉w→splitC c w=[w]
  | [],_=>rfl
  | b :: w,h=>by
    have hb:b≠c:=fun e=>h (e ▸ List.mem_cons_self ..)
    simp only [splitC,if_neg hb,split_none (w:=w) fun hm=>h (List.mem_cons_of_mem _ hm)]
theorem split_at {c:UInt8} (r:List UInt8):∀ {w:List UInt8},c∉w→splitC c (w++c :: r)=w :: splitC c r
  | [],_=>by simp [splitC]
  | b :: w,h=>by
    have hb:b≠c:=fun e=>h (e ▸ List.mem_cons_self ..)
    simp only [List.cons_append,splitC,if_neg hb,split_at r (w:=w) fun hm=>h (List.mem_cons_of_mem _ hm)]
theorem split_join {c:UInt8}:∀ {ws:List (List UInt8)},ws≠[]→(∀ w∈ws,c∉w)→splitC c (join ws [c])=ws
  | [],h,_=>absurd rfl h
  | [w],_,h=>by rw [join_one,split_none (h w (List.mem_cons_self ..))]
  | w :: w' :: ws,_,h=>by
    have e:join (w :: w' :: ws) [c]=w++c :: join (w' :: ws) [c]:=by
      rw [join_cons,join_cons];simp [joinTail]
    rw [e,split_at _ (h w (List.mem_cons_self ..)),split_join (by simp) fun x hx=>h x (List.mem_cons_of_mem _ hx)]
def lineT (ws:List (List UInt8)):List UInt8:=join ws [32]++[10]
structure LineOk (ws:List (List UInt8)):Prop where
  ne:ws≠[]
  few:ws.length≤7
  tok:∀ w∈ws,TokW w
theorem LineOk.len {ws:List (List UInt8)} (h:LineOk ws):(lineT ws).length≤600:=by
  have h1:=join_len (B:=80) (c:=32) fun w hw=>(h.tok w hw).hi
  have h2:=h.few
  have h3:ws.length*81≤7*81:=Nat.mul_le_mul_right _ h2
  simp only [lineT,List.length_append,List.length_cons,List.length_nil]
  omega
theorem LineOk.split {ws:List (List UInt8)} (h:LineOk ws):splitC 32 (join ws [32])=ws:=split_join h.ne fun w hw=>(h.tok w hw).sp
theorem LineOk.nl {ws:List (List UInt8)} (h:LineOk ws):10∉join ws [32]:=join_not (by decide) fun w hw=>(h.tok w hw).nl
theorem lines_split:∀ {ls:List (List (List UInt8))},(∀ ws∈ls,LineOk ws)→splitC 10 (ls.map lineT).flatten=ls.map (fun ws=>join ws [32])++[[]]
  | [],_=>rfl
  | ws :: ls,h=>by
    have h1:=(h ws (List.mem_cons_self ..)).nl
    have ih:=lines_split (ls:=ls) fun x hx=>h x (List.mem_cons_of_mem _ hx)
    simp only [List.map_cons,List.flatten_cons,lineT,List.append_assoc,List.cons_append,List.nil_append] at ih ⊢
    rw [split_at _ h1,ih]
theorem lines_len:∀ {ls:List (List (List UInt8))},(∀ ws∈ls,LineOk ws)→(ls.map lineT).flatten.length≤600*ls.length
  | [],_=>by simp
  | ws :: ls,h=>by
    have h1:=(h ws (List.mem_cons_self ..)).len
    have ih:=lines_len (ls:=ls) fun x hx=>h x (List.mem_cons_of_mem _ hx)
    simp only [List.map_cons,List.flatten_cons,List.length_append,List.length_cons] at ih ⊢
    omega
theorem hJoin_ok {ws:List (List UInt8)} {c:UInt8} (h:ws.length≤100) (hw:∀ w∈ws,w.length≤100):f115 ws [c]=some (join ws [c]):=by
  have h1:=join_len (c:=c) hw
  have:ws.length*101≤100*101:=Nat.mul_le_mul_right _ h
  show hJoin ws [c]=_
  unfold hJoin
  rw [chk_true]
  rw [Bool.and_eq_true]
  exact⟨lenLIM (by omega),lenLIM (by omega)⟩
theorem LineOk.join {ws:List (List UInt8)} (h:LineOk ws):f115 ws [32]=some (join ws [32]):=hJoin_ok (by have:=h.few;omega) fun w hw=>by have:=(h.tok w hw).hi;omega
theorem f113_ok {ws:List (List UInt8)} (h:LineOk ws):f113 ws=some (s2bT (lineT ws)):=by
  have hl:=h.len
  have hq:(lineT ws).length≤4294967296:=by omega
  simp only [f113,h.join,bind_some',show Go.Lib.join ws [32]++[10]=lineT ws from rfl]
  rw [chk_true (lenLIM hq)]
  simp only [f114,show f174=some () from rfl,bind_some',show Go.Lib.join ws [32]++[10]=lineT ws from rfl]
  rw [chk_true (lenLIM hq)]
  rfl
theorem f113b_ok {ws:List (List UInt8)} (h:LineOk ws) {t:List UInt8} (ht:t.length≤100000):f113b ws (s2bT t)=some (s2bT (t++lineT ws)):=by
  have hl:=h.len
  have hq:(lineT ws).length≤4294967296:=by omega
  simp only [f113b,h.join,bind_some',show Go.Lib.join ws [32]++[10]=lineT ws from rfl]
  rw [chk_true (lenLIM hq)]
  simp only [f114b,show f174b (s2bT t)=some () from rfl,bind_some']
  have e:s2bT t++s2bT (lineT ws)=s2bT (t++lineT ws):=(s2b_app t (lineT ws)).symm
  rw [e,chk_true (lenLIM (by rw [s2b_len,List.length_append];omega))]
  rfl
-- the words
def adTx (a:Addr):List UInt8:=(f121 a pw deBr).getD []
def mcTx (x:MAC):List UInt8:=(f120 x).getD []
def macsTx (p:Port):List UInt8:=join ((pmacs p).map mcTx) [44]
def dashT (s:List UInt8):List UInt8:=(f119 s).getD []
def portW:List UInt8:=[112,111,114,116]
def wordsP (p:Port):List (List UInt8):=[portW,itoaT p.1,itoaT p.2.1,itoaT p.2.2.1,macsTx p,adTx p.2.2.2.2.1,adTx p.2.2.2.2.2]
def wordsM (word:List UInt8) (m:Member):List (List UInt8):=[word,itoaT m.1,m.2.1,dashT m.2.2.1,itoaT m.2.2.2.1,itoaT m.2.2.2.2.1]
structure NumOk (n:Int):Prop where
  tok:TokW (itoaT n)
  get:f230 (itoaT n)=some n
  put:f118 n pw=some (itoaT n)
  lo:0≤n
  hi:n≤65000
theorem num_ok {n:Nat} (h:n∈nums):NumOk (n:Int):=by
  have:=List.all_eq_true.1 num_tab n h
  simp only [Bool.and_eq_true,beq_iff_eq] at this
  have hle:nums.all (fun n=>decide (n≤65000))=true:=by decide
  have:=List.all_eq_true.1 hle n h
  simp only [decide_eq_true_eq] at this
  rename_i h1
  exact⟨(TokW.of h1.1).1,h1.2.1,h1.2.2,by omega,by omega⟩
theorem small_num {n:Nat} (h:n≤100):NumOk (n:Int):=num_ok (List.mem_append_left _ (List.mem_range.2 (by omega)))
structure AdOk (a:Addr):Prop where
  tok:TokW (adTx a)
  put:f121 a pw deBr=some (adTx a)
  get:a=zeroA∧adTx a=[45]∨adTx a≠[45]∧∀ m:Int,f184 (adTx a) m pw=some (0,a)
theorem four_ok {n:Nat} (h:n≤14):AdOk (fourT n):=by
  have key:=fun m=>allRange (four_tab m) (show n<15 by omega)
  simp only [Bool.and_eq_true,beq_iff_eq,dashB,bne_iff_ne,ne_eq] at key
  have e:adTx (fourT n)=tx4 n:=rfl
  exact⟨by rw [e];exact(TokW.of (key 0).1).1,by rw [e];exact(key 0).2.2.1,.inr ⟨by rw [e];exact(key 0).2.1,fun m=>by rw [e];exact(key m).2.2.2⟩⟩
theorem six_ok {n:Nat} (h:n≤14):AdOk (sixT n):=by
  have key:=fun m=>allRange (six_tab m) (show n<15 by omega)
  simp only [Bool.and_eq_true,beq_iff_eq,dashB,bne_iff_ne,ne_eq] at key
  have e:adTx (sixT n)=tx6 n:=rfl
  exact⟨by rw [e];exact(TokW.of (key 0).1).1,by rw [e];exact(key 0).2.2.1,.inr ⟨by rw [e];exact(key 0).2.1,fun m=>by rw [e];exact(key m).2.2.2⟩⟩
theorem zero_ok:AdOk zeroA:=⟨⟨by decide,by decide,by decide,by decide⟩,rfl,.inl ⟨rfl,rfl⟩⟩
theorem mac_ok {k:Nat} (h:k<256):TokW (mcTx (macT k))∧44∉mcTx (macT k)∧(mcTx (macT k)).length≤60∧f120 (macT k)=some (mcTx (macT k))∧f189 (mcTx (macT k))=some (0,macT k):=by
  have key:=allRange mac_tab h
  simp only [Bool.and_eq_true,beq_iff_eq] at key
  obtain⟨h1,h2,h3⟩:=TokW.of key.1
  exact⟨h1,h2,h3,key.2.1,key.2.2⟩
structure PortT (p:Port):Prop where
  id:NumOk p.1
  sw:NumOk p.2.1
  sp:NumOk p.2.2.1
  a4:AdOk p.2.2.2.2.1
  a6:AdOk p.2.2.2.2.2
  macs:∀ x∈pmacs p,TokW (mcTx x)∧44∉mcTx x∧(mcTx x).length≤39∧f120 x=some (mcTx x)∧f189 (mcTx x)=some (0,x)
  some:1≤(pmacs p).length∧(pmacs p).length≤2
theorem mac_len:(List.range 256).all (fun k=>decide ((mcTx (macT k)).length≤39))=true:=by kernel_rfl
theorem portT_of {n:Nat} {p:Port} (h:IsPort n p) (hn:n≤14):PortT p:=by
  have hm:∀ k,k<256→TokW (mcTx (macT k))∧44∉mcTx (macT k)∧(mcTx (macT k)).length≤39∧f120 (macT k)=some (mcTx (macT k))∧f189 (mcTx (macT k))=some (0,macT k):=fun k hk=>by
    obtain⟨h1,h2,h3,h4,h5⟩:=mac_ok hk
    exact⟨h1,h2,of_decide_eq_true (allRange mac_len hk),h4,h5⟩
  have hmacs:=pmacs_of h
  have hads:=addrs_of h
  obtain⟨o,sw,sp,two,vc,b1,b2,b3,b4,e⟩:=h
  have e1:p.1=((3*n+o:Nat):Int):=by rw [e];rfl
  have e2:p.2.1=(sw:Int):=by rw [e];rfl
  have e3:p.2.2.1=([1,10,100,400]:List Int).getD sp 1:=by rw [e];rfl
  refine⟨by rw [e1];exact small_num (by omega),by rw [e2];exact small_num (by omega),?_,?_,?_,fun x hx => ?_,?_⟩
  · rw [e3]
    match sp,b3 with
    | 0,_=>exact small_num (n:=1) (by decide)
    | 1,_=>exact small_num (n:=10) (by decide)
    | 2,_=>exact small_num (n:=100) (by decide)
    | 3,_=>exact num_ok (n:=400) (by decide)
  · rcases hads with ⟨h1,_⟩ | ⟨h1,_⟩ | ⟨h1,_⟩<;>rw [h1]
    · exact four_ok hn
    · exact zero_ok
    · exact four_ok hn
  · rcases hads with ⟨_,h1⟩ | ⟨_,h1⟩ | ⟨_,h1⟩<;>rw [h1]
    · exact zero_ok
    · exact six_ok hn
    · exact six_ok hn
  · rcases hmacs with h | h<;>rw [h] at hx<;>simp at hx
    · rw [hx];exact hm _ (by omega)
    · rcases hx with hx | hx<;>rw [hx]
      · exact hm _ (by omega)
      · exact hm _ (by omega)
  · rcases hmacs with h | h<;>rw [h]<;>simp
theorem PortT.macsTok {p:Port} (h:PortT p):TokW (macsTx p):=by
  have h1:=join_len (c:=44) (B:=39) (ws:=(pmacs p).map mcTx) fun w hw=>by
    obtain⟨x,hx,rfl⟩:=List.mem_map.1 hw
    exact(h.macs x hx).2.2.1
  have h2:=h.some
  rw [List.length_map] at h1
  have h3:(pmacs p).length*40≤2*40:=Nat.mul_le_mul_right _ h2.2
  refine⟨?_,?_,join_not (by decide) fun w hw => ?_,join_not (by decide) fun w hw => ?_⟩
  · unfold macsTx
    match hp:pmacs p,h2 with
    | x :: l,_ =>
      rw [List.map_cons,join_cons,List.length_append]
      have:=(h.macs x (by rw [hp];exact List.mem_cons_self ..)).1.lo
      omega
  · unfold macsTx;omega
  · obtain⟨x,hx,rfl⟩:=List.mem_map.1 hw
    exact(h.macs x hx).1.nl
  · obtain⟨x,hx,rfl⟩:=List.mem_map.1 hw
    exact(h.macs x hx).1.sp
theorem PortT.line {p:Port} (h:PortT p):LineOk (wordsP p):=by
  refine⟨by simp [wordsP],by simp [wordsP],fun w hw => ?_⟩
  simp only [wordsP,List.mem_cons,List.not_mem_nil,or_false] at hw
  rcases hw with rfl | rfl | rfl | rfl | rfl | rfl | rfl
  · exact⟨by decide,by decide,by decide,by decide⟩
  · exact h.id.tok
  · exact h.sw.tok
  · exact h.sp.tok
  · exact h.macsTok
  · exact h.a4.tok
  · exact h.a6.tok
structure OwnT (m:Member):Prop where
  asn:NumOk m.1
  name:TokW m.2.1
  set:TokW (dashT m.2.2.1)∧f119 m.2.2.1=some (dashT m.2.2.1)∧(m.2.2.1=[]∧dashT m.2.2.1=[45]∨dashT m.2.2.1≠[45]∧dashT m.2.2.1=m.2.2.1)
  m4:NumOk m.2.2.2.1
  m6:NumOk m.2.2.2.2.1
  pts:∀ p∈mports m,PortT p
theorem OwnT.line {m:Member} (h:OwnT m) {word:List UInt8} (hw:TokW word):LineOk (wordsM word m):=by
  refine⟨by simp [wordsM],by simp [wordsM],fun w hw' => ?_⟩
  simp only [wordsM,List.mem_cons,List.not_mem_nil,or_false] at hw'
  rcases hw' with rfl | rfl | rfl | rfl | rfl | rfl
  · exact hw
  · exact h.asn.tok
  · exact h.name
  · exact h.set.1
  · exact h.m4.tok
  · exact h.m6.tok
end Go.Top
namespace Go.Top
open Go Go.Vc Go.Lib
def serverW:List UInt8:=[115,101,114,118,101,114]
def memberW:List UInt8:=[109,101,109,98,101,114]
def lanW:List UInt8:=[108,97,110]
def ownL (x:List UInt8×Member):List (List (List UInt8)):=wordsM x.1 x.2 :: (mports x.2).map wordsP
def ow (d:Database):List (List UInt8×Member):=d.2.2.1.map (fun m=>(serverW,m))++d.2.2.2.map (fun m=>(memberW,m))
def linesD (d:Database):List (List (List UInt8)):=[lanW,l4,l6] :: ((ow d).map ownL).flatten
def textD (d:Database):List UInt8:=((linesD d).map lineT).flatten
theorem name_tab:nameList.all tokB=true:=by decide
theorem sets_tab:sets.all (fun s=>tokB (dashT s)&&(f119 s==some (dashT s)&&(s==[]&&dashT s==[45] || dashB (dashT s)&&dashT s==s)))=true:=by kernel_rfl
theorem Made.ownT {d:Database} (h:Made d):∀ m∈owners d,OwnT m:=fun m hm=>by
  have ho:=h.own m hm
  have hasn:NumOk m.1:=by
    rcases List.mem_append.1 hm with hm | hm
    · obtain⟨i,hi⟩:=List.getElem?_of_mem hm
      rw [h.srv_asn hi]
      exact num_ok (n:=65000) (by decide)
    · obtain⟨i,hi⟩:=List.getElem?_of_mem hm
      have:=len_of hi
      have hlm:=h.lm
      rw [(h.mem i m hi).asn]
      exact small_num (by omega)
  have hset:=List.all_eq_true.1 sets_tab _ ho.set
  simp only [Bool.and_eq_true,Bool.or_eq_true,beq_iff_eq,dashB,bne_iff_ne,ne_eq] at hset
  obtain⟨x,hx,e4⟩:=ho.m4
  obtain⟨y,hy,e6⟩:=ho.m6
  exact⟨hasn,(TokW.of (List.all_eq_true.1 name_tab _ ho.name)).1,⟨(TokW.of hset.1).1,hset.2.1,hset.2.2⟩,by rw [e4];exact small_num (by omega),by rw [e6];exact small_num (by omega),fun p hp=>by
    obtain⟨n,_,n2,hn⟩:=ho.pts p hp
    exact portT_of hn n2⟩
theorem ow_len (d:Database):(ow d).length=(owners d).length:=by simp [ow,owners]
theorem ow_at {d:Database} {i:Nat} {m:Member} (h:(owners d)[i]? = some m):(ow d)[i]? = some ((if i<d.2.2.1.length then serverW else memberW),m):=by
  unfold owners at h
  unfold ow
  rw [List.getElem?_append] at h ⊢
  simp only [List.length_map]
  split at h
  · rename_i hi
    rw [if_pos hi,if_pos hi,List.getElem?_map,h];rfl
  · rename_i hi
    rw [if_neg hi,if_neg hi,List.getElem?_map,h];rfl
theorem ow_own {d:Database} {x:List UInt8×Member} (h:x∈ow d):x.2∈owners d∧(x.1=serverW∨x.1=memberW):=by
  rcases List.mem_append.1 h with h | h
  · obtain⟨m,hm,rfl⟩:=List.mem_map.1 h
    exact⟨List.mem_append_left _ hm,.inl rfl⟩
  · obtain⟨m,hm,rfl⟩:=List.mem_map.1 h
    exact⟨List.mem_append_right _ hm,.inr rfl⟩
theorem word_tok {w:List UInt8} (h:w=serverW∨w=memberW):TokW w:=by
  rcases h with rfl | rfl
  · exact⟨by decide,by decide,by decide,by decide⟩
  · exact⟨by decide,by decide,by decide,by decide⟩
theorem Made.lineOk {d:Database} (h:Made d):∀ ws∈linesD d,LineOk ws:=fun ws hw=>by
  rcases List.mem_cons.1 hw with rfl | hw
  · have h4:=l4_tab 0
    have h6:=l6_tab 0
    rw [Bool.and_eq_true] at h4 h6
    refine⟨by simp,by simp,fun w hw => ?_⟩
    simp only [List.mem_cons,List.not_mem_nil,or_false] at hw
    rcases hw with rfl | rfl | rfl
    · exact⟨by decide,by decide,by decide,by decide⟩
    · exact(TokW.of h4.1).1
    · exact(TokW.of h6.1).1
  · obtain⟨l,hl,hwl⟩:=List.mem_flatten.1 hw
    obtain⟨x,hx,rfl⟩:=List.mem_map.1 hl
    obtain⟨hm,hwd⟩:=ow_own hx
    have ho:=h.ownT x.2 hm
    rcases List.mem_cons.1 hwl with rfl | hwl
    · exact ho.line (word_tok hwd)
    · obtain⟨p,hp,rfl⟩:=List.mem_map.1 hwl
      exact(ho.pts p hp).line
theorem ownL_len {d:Database} (h:Made d):∀ {l:List (List UInt8×Member)},(∀ x∈l,x∈ow d)→((l.map ownL).flatten).length≤3*l.length
  | [],_=>by simp
  | x :: l,hl=>by
    have ih:=ownL_len h (l:=l) fun y hy=>hl y (List.mem_cons_of_mem _ hy)
    have h1:=(h.own x.2 (ow_own (hl x (List.mem_cons_self ..))).1).few
    simp only [List.map_cons,List.flatten_cons,List.length_append,ownL,List.length_cons,List.length_map] at ih ⊢
    omega
theorem Made.text_len {d:Database} (h:Made d):(textD d).length≤14000∧(linesD d).length≤22:=by
  have h1:=lines_len h.lineOk
  have h2:=ownL_len h (l:=ow d) fun x hx=>hx
  have h3:=h.few.2.2
  rw [ow_len] at h2
  have h4:(linesD d).length≤22:=by simp only [linesD,List.length_cons];omega
  refine⟨?_,h4⟩
  unfold textD
  omega
-- printing
theorem f64L2_ok {p:Port} (h:PortT p):loopF (f64L2 p) (0,[])=some ((pmacs p).map mcTx):=by
  have hs:=h.some
  have:=loopF_range (tb:=f64L2 p) (x:=(pmacs p).map mcTx) (fun i=>((i:Int),((pmacs p).take i).map mcTx)) (pmacs p).length (by omega) (fun i hi=>by
    have ha:=List.getElem?_eq_getElem hi
    have ha':p.2.2.2.1[i]? = some (pmacs p)[i]:=ha
    have hm:=(h.macs _ (List.mem_of_getElem? ha)).2.2.2.1
    simp only [f64L2,lt_len ha',if_true,idx_nat ha',bind_some',hm]
    rw [chk_true (lenLIM (show(((pmacs p).take i).map mcTx++[mcTx (pmacs p)[i]]).length≤4294967296 by simp;omega)),le_len ha (by omega),take_map ha]) (by
    have:decide (((pmacs p).length:Int)<(p.2.2.2.1.length:Int))=false:=at_len (pmacs p)
    simp only [f64L2,this,Bool.false_eq_true,if_false,List.take_length])
  exact this
theorem f64L1_ok {m:Member} (h:OwnT m) (hf:(mports m).length≤2) {t:List UInt8} (ht:t.length≤90000):loopF (f64L1 pw deBr m) (0,s2bT t)=some (s2bT (t++(((mports m).map wordsP).map lineT).flatten)):=by
  have hok:∀ ws∈(mports m).map wordsP,LineOk ws:=fun ws hw=>by
    obtain⟨p,hp,rfl⟩:=List.mem_map.1 hw
    exact(h.pts p hp).line
  have hlen:∀ i,((((mports m).take i).map wordsP).map lineT).flatten.length≤1200:=fun i=>by
    have h1:=lines_len (ls:=((mports m).take i).map wordsP) fun ws hw=>by
      obtain⟨p,hp,rfl⟩:=List.mem_map.1 hw
      exact(h.pts p (List.mem_of_mem_take hp)).line
    have h2:((((mports m).take i).map wordsP).length)≤2:=by simp;omega
    omega
  have:=loopF_range (tb:=f64L1 pw deBr m) (x:=s2bT (t++(((mports m).map wordsP).map lineT).flatten)) (fun i=>((i:Int),s2bT (t++((((mports m).take i).map wordsP).map lineT).flatten))) (mports m).length (by omega) (fun i hi=>by
    have ha:=List.getElem?_eq_getElem hi
    have ha':m.2.2.2.2.2[i]? = some (mports m)[i]:=ha
    have hp:=h.pts _ (List.mem_of_getElem? ha)
    generalize hq:(mports m)[i]=q at ha ha' hp
    have hj:f115 ((pmacs q).map mcTx) [44]=some (macsTx q):=hJoin_ok (by simp;have:=hp.some;omega) fun w hw=>by
      obtain⟨x,hx,rfl⟩:=List.mem_map.1 hw
      have:=(hp.macs x hx).2.2.1;omega
    have hb:=f113b_ok hp.line (t:=t++((((mports m).take i).map wordsP).map lineT).flatten) (by rw [List.length_append];have:=hlen i;omega)
    have hb:f113b [[112,111,114,116],itoaT q.1,itoaT q.2.1,itoaT q.2.2.1,macsTx q,adTx q.2.2.2.2.1,adTx q.2.2.2.2.2] (s2bT (t++((((mports m).take i).map wordsP).map lineT).flatten))=_:=hb
    simp only [f64L1,lt_len ha',if_true,idx_nat ha',bind_some',f64L2_ok hp,hp.id.put,hp.sw.put,hp.sp.put,hj,hp.a4.put,hp.a6.put,hb]
    rw [le_len ha (by omega),take_map ha,List.map_append,List.flatten_append]
    simp) (by
    have:decide (((mports m).length:Int)<(m.2.2.2.2.2.length:Int))=false:=at_len (mports m)
    simp only [f64L1,this,Bool.false_eq_true,if_false,List.take_length])
  simpa using this
theorem f64_ok {d:Database} (h:Made d):f64 d pw deBr=some (textD d):=by
  have hf:=h.few
  have hs:=h.ls
  have hlm:=h.lm
  have e4:d.1=lan4:=h.lan4
  have e6:d.2.1=lan6:=h.lan6
  have h4:=l4_tab 0
  have h6:=l6_tab 0
  simp only [Bool.and_eq_true,beq_iff_eq] at h4 h6
  have htop:=f113_ok (h.lineOk [lanW,l4,l6] (List.mem_cons_self ..))
  have htop:f113 [[108,97,110],l4,l6]=some (s2bT (lineT [lanW,l4,l6])):=htop
  have hl0:=(h.lineOk [lanW,l4,l6] (List.mem_cons_self ..)).len
  have hpre:∀ i,(((((ow d).take i).map ownL).flatten).map lineT).flatten.length≤600*21:=fun i=>by
    have h1:=lines_len (ls:=(((ow d).take i).map ownL).flatten) fun ws hw=>by
      refine h.lineOk ws (List.mem_cons_of_mem _ ?_)
      obtain⟨l,hl,hw⟩:=List.mem_flatten.1 hw
      obtain⟨x,hx,rfl⟩:=List.mem_map.1 hl
      exact List.mem_flatten.2 ⟨_,List.mem_map.2 ⟨x,List.mem_of_mem_take hx,rfl⟩,hw⟩
    have h2:=ownL_len h (l:=(ow d).take i) fun x hx=>List.mem_of_mem_take hx
    have h3:((ow d).take i).length≤7:=by rw [List.length_take,ow_len];omega
    omega
  have loop:=loopF_range (tb:=f64L0 d pw deBr (owners d)) (x:=s2bT (textD d)) (fun i=>((i:Int),s2bT (lineT [lanW,l4,l6]++((((ow d).take i).map ownL).flatten.map lineT).flatten))) (owners d).length (by omega) (fun i hi=>by
    have ha:=List.getElem?_eq_getElem hi
    generalize hq:(owners d)[i]=m at ha
    have hmem:=List.mem_of_getElem? ha
    have ho:=h.ownT m hmem
    have hfew:=(h.own m hmem).few
    have how:=ow_at ha
    have hb:=hpre i
    have key:∀ word:List UInt8,TokW word→(ow d)[i]? = some (word,m) →
        ((f113b [word,itoaT m.1,m.2.1,dashT m.2.2.1,itoaT m.2.2.2.1,itoaT m.2.2.2.2.1] (s2bT (lineT [lanW,l4,l6]++((((ow d).take i).map ownL).flatten.map lineT).flatten))).bind fun x13=>(loopF (f64L1 pw deBr m) (0,x13)).bind fun x30=>some (Sum.inr (w64 ((i:Int)+1),x30)):Option ((List Int)⊕(Int×(List Int)))) =
        some (.inr (((i+1:Nat):Int),s2bT (lineT [lanW,l4,l6]++((((ow d).take (i+1)).map ownL).flatten.map lineT).flatten))):=fun word hw hat=>by
      have h1:=f113b_ok (ho.line hw) (t:=lineT [lanW,l4,l6]++((((ow d).take i).map ownL).flatten.map lineT).flatten) (by rw [List.length_append];omega)
      have h1:f113b [word,itoaT m.1,m.2.1,dashT m.2.2.1,itoaT m.2.2.2.1,itoaT m.2.2.2.2.1] _=_:=h1
      have hll:=(ho.line hw).len
      rw [h1,bind_some',f64L1_ok ho hfew.2 (by simp only [List.length_append];omega),bind_some',le_len ha (by omega),take_flat hat]
      simp [ownL]
    have hput:=ho.asn.put
    by_cases hlt:i<d.2.2.1.length
    · rw [if_pos hlt] at how
      have hd:decide ((i:Int)<(d.2.2.1.length:Int))=true:=decide_eq_true (by omega)
      have:=key serverW (word_tok (.inl rfl)) how
      simp only [f64L0,lt_len ha,if_true,idx_nat ha,bind_some',jn_eq,ho.asn.put,ho.set.2.1,ho.m4.put,ho.m6.put,hd]
      exact this
    · rw [if_neg hlt] at how
      have hd:decide ((i:Int)<(d.2.2.1.length:Int))=false:=decide_eq_false (by omega)
      have:=key memberW (word_tok (.inr rfl)) how
      simp only [f64L0,lt_len ha,if_true,idx_nat ha,bind_some',jn_eq,ho.asn.put,ho.set.2.1,ho.m4.put,ho.m6.put,hd,Bool.false_eq_true,if_false]
      exact this) (by
    simp only [f64L0,at_len,Bool.false_eq_true,if_false]
    rw [← ow_len,List.take_length]
    simp [textD,linesD])
  have loop:loopF (f64L0 d pw deBr (owners d)) (0,s2bT (lineT [lanW,l4,l6]))=some (s2bT (textD d)):=by
    have:=loop
    simp only [List.take_zero,List.map_nil,List.flatten_nil,List.append_nil] at this
    exact this
  have hne:(((s2bT (textD d)).length:Int) != 0)=true:=by
    rw [s2b_len]
    have:1≤(textD d).length:=by
      simp only [textD,linesD,List.map_cons,List.flatten_cons,List.length_append,lineT,List.length_cons,List.length_nil]
      omega
    exact bne_iff_ne.2 (by omega)
  have h122:f122 (s2bT (textD d))=some (textD d):=by
    simp only [f122,hne,b2s_s2b]
    simp [Vc.chk]
  simp only [f64,e4,e6,h4.2.1,h6.2.1,bind_some',htop,f117_ok (show d.2.2.1.length≤1000 by omega) (show d.2.2.2.length≤1000 by omega),loop,h122]
theorem f31_ok {d:Database} (h:Made d):f31 d pw deBr=some (textD d,0):=by
  simp only [f31,f63_ok h,bind_some',show((0:Int) != 0)=false from rfl,Bool.false_eq_true,if_false,f64_ok h]
end Go.Top
namespace Go.Top
open Go Go.Vc Go.Lib
-- lists of owners whose last one is open
def setP (m:Member) (ps:List Port):Member:=(m.1,m.2.1,m.2.2.1,m.2.2.2.1,m.2.2.2.2.1,ps)
def openL (l:List Member):List Member:=lastT (fun m=>setP m []) l
def lastP:List Member→List Port
  | []=>[]
  | [m]=>mports m
  | _ :: m :: l=>lastP (m :: l)
def addP (l:List Member) (p:Port):List Member:=lastT (fun m=>setP m (mports m++[p])) l
theorem lastT_snoc' {α:Type} {f:α→α} {q:α}:∀ l:List α,lastT f (l++[q])=l++[f q]
  | []=>rfl
  | [y]=>rfl
  | y :: z :: l=>by
    have:=lastT_snoc' (f:=f) (q:=q) (z :: l)
    simp only [List.cons_append,lastT] at this ⊢
    rw [this]
theorem lastP_snoc (l:List Member) (m:Member):lastP (l++[m])=mports m:=by
  induction l with
  | nil=>rfl
  | cons x l ih =>
    cases l with
    | nil=>rfl
    | cons y l=>exact ih
theorem snoc_cases {α:Type} (l:List α):l=[]∨∃ l' x,l=l'++[x]:=by
  cases hl:l.reverse with
  | nil=>left;simpa using hl
  | cons x r=>right;exact⟨r.reverse,x,by have:=congrArg List.reverse hl;simpa using this⟩
theorem close_open (l:List Member):lastT (fun z:Member=>(z.1,z.2.1,z.2.2.1,z.2.2.2.1,z.2.2.2.2.1,lastP l)) (openL l)=l:=by
  rcases snoc_cases l with rfl | ⟨l',m,rfl⟩
  · rfl
  · rw [openL,lastT_snoc',lastT_snoc',lastP_snoc];rfl
theorem open_len (l:List Member):(openL l).length=l.length:=lastT_len l
def enc (s:List Member×List Member):Bool×(Bool×(Int×(Int×((List Member)×((List Member)×((List Port)×(List Port))))))) :=
  (!(s.1.isEmpty&&s.2.isEmpty),!s.2.isEmpty,(if s.2.isEmpty then 0 else ((s.2.length-1:Nat):Int)),(if s.2.isEmpty && !s.1.isEmpty then ((s.1.length-1:Nat):Int) else 0),openL s.1,openL s.2,lastP s.1,lastP s.2)
inductive Ins
  | srv (m:Member)
  | mem (m:Member)
  | port (p:Port)
def Ins.words:Ins→List (List UInt8)
  | .srv m=>wordsM serverW m
  | .mem m=>wordsM memberW m
  | .port p=>wordsP p
def Ins.app:Ins→List Member×List Member→List Member×List Member
  | .srv m,s=>(s.1++[setP m []],s.2)
  | .mem m,s=>(s.1,s.2++[setP m []])
  | .port p,s=>if s.2.isEmpty then (addP s.1 p,s.2) else (s.1,addP s.2 p)
def Ins.ok:Ins→List Member×List Member→Prop
  | .srv m,s=>OwnT m∧s.2=[]∧s.1.length≤10
  | .mem m,s=>OwnT m∧s.2.length≤10
  | .port p,s=>PortT p∧(s.1≠[]∨s.2≠[])∧(lastP s.1).length≤10∧(lastP s.2).length≤10
inductive Runs:List Ins→List Member×List Member→List Member×List Member→Prop
  | nil (s):Runs [] s s
  | cons {i:Ins} {l:List Ins} {s t}:i.ok s→Runs l (i.app s) t→Runs (i :: l) s t
theorem Runs.app {l l':List Ins} {s t u} (h:Runs l s t) (k:Runs l' t u):Runs (l++l') s u:=by
  induction h with
  | nil=>exact k
  | cons h1 _ ih=>exact .cons h1 (ih k)
-- reading words
theorem next_ok' {w:List UInt8} {ws:List (List UInt8)} (h:1≤w.length) (b:Bool):f66 (w :: ws) b=some (w,ws,b):=by
  have h1:(((w :: ws).length:Int)==0)=false:=by
    rw [beq_eq_false_iff_ne,List.length_cons];omega
  have h2:(w==([]:List UInt8))=false:=by
    rw [beq_eq_false_iff_ne];intro e;subst e;simp at h
  have h3:leT 1 (w :: ws).length=true:=by simp [leT]
  simp only [f66,jn_eq,h1,Bool.false_eq_true,if_false,show idx (w :: ws) 0=some w from rfl,bind_some',h2,chk_true h3]
  rfl
theorem number_ok {n:Int} (h:NumOk n) (ws:List (List UInt8)):f187 (itoaT n :: ws) false pw=some (n,ws,false):=by
  have a1:decide (n<0)=false:=decide_eq_false (by have:=h.lo;omega)
  have a2:decide (1099511627776<n)=false:=decide_eq_false (by have:=h.hi;omega)
  simp only [f187,next_ok' h.tok.lo,bind_some',h.get,Bool.false_eq_true,if_false,a1,a2,h.put,beq_self_eq_true,Bool.not_true]
theorem dash_ok {m:Member} (h:OwnT m) (ws:List (List UInt8)):f188 (dashT m.2.2.1 :: ws) false=some (m.2.2.1,ws,false):=by
  simp only [f188,next_ok' h.set.1.lo,bind_some']
  rcases h.set.2.2 with ⟨e1,e2⟩ | ⟨e1,e2⟩
  · rw [e2,e1];rfl
  · have:(dashT m.2.2.1==[45])=false:=beq_eq_false_iff_ne.2 e1
    simp only [this,Bool.false_eq_true,if_false];rw [e2]
theorem owner_ok {m:Member} (h:OwnT m):f126 [itoaT m.1,m.2.1,dashT m.2.2.1,itoaT m.2.2.2.1,itoaT m.2.2.2.2.1] false pw=some ([],false,m.1,m.2.1,m.2.2.1,m.2.2.2.1,m.2.2.2.2.1):=by
  simp only [f126,number_ok h.asn,bind_some',next_ok' h.name.lo,dash_ok h,number_ok h.m4,number_ok h.m6]
theorem ad_ok {a:Addr} (h:AdOk a) (m:Int) (ws:List (List UInt8)):f190 (adTx a :: ws) false m pw deBr=some (ws,false,a):=by
  have hne:(adTx a==([]:List UInt8))=false:=beq_eq_false_iff_ne.2 fun e=>by have:=h.tok.lo;rw [e] at this;simp at this
  rcases h.get with ⟨e1,e2⟩ | ⟨e1,e2⟩
  · have:f188 (adTx a :: ws) false=some ([],ws,false):=by
      simp only [f188,next_ok' h.tok.lo,bind_some',e2];rfl
    simp only [f190,this,bind_some',show(([]:List UInt8)==[])=true from rfl,if_true]
    rw [e1];rfl
  · have h45:(adTx a==[45])=false:=beq_eq_false_iff_ne.2 e1
    have:f188 (adTx a :: ws) false=some (adTx a,ws,false):=by
      simp only [f188,next_ok' h.tok.lo,bind_some',h45,Bool.false_eq_true,if_false]
    simp only [f190,this,bind_some',hne,Bool.false_eq_true,if_false,e2 m,show((0:Int) != 0)=false from rfl,h.put,beq_self_eq_true,Bool.not_true]
theorem hSplit_ok {s:List UInt8} {c:UInt8} (h:s.length≤100000):f65 s [c]=some (splitC c s):=by
  show hSplit s [c]=_
  unfold hSplit
  exact chk_true (decide_eq_true (by omega))
theorem macs_ok {p:Port} (h:PortT p):loopF (f127L0 ((pmacs p).map mcTx)) (0,false,[])=some (false,pmacs p):=by
  have hs:=h.some
  have:=loopF_range (tb:=f127L0 ((pmacs p).map mcTx)) (x:=(false,pmacs p)) (fun i=>((i:Int),false,(pmacs p).take i)) (pmacs p).length (by omega) (fun i hi=>by
    have ha:=List.getElem?_eq_getElem hi
    have ha':((pmacs p).map mcTx)[i]? = some (mcTx (pmacs p)[i]):=by rw [List.getElem?_map,ha];rfl
    have hm:=(h.macs _ (List.mem_of_getElem? ha)).2.2.2.2
    simp only [f127L0,lt_len ha',if_true,idx_nat ha',bind_some',hm,jn_eq,Bool.false_eq_true,if_false,show((0:Int) != 0)=false from rfl]
    rw [chk_true (lenLIM (show((pmacs p).take i++[(pmacs p)[i]]).length≤4294967296 by simp;omega)),le_len ha (by omega),List.take_add_one,ha];rfl) (by
    have:decide (((pmacs p).length:Int)<(((pmacs p).map mcTx).length:Int))=false:=by rw [List.length_map];exact at_len (pmacs p)
    simp only [f127L0,this,Bool.false_eq_true,if_false,List.take_length])
  exact this
theorem port_ok {p:Port} (h:PortT p) (m:Int):f127 [itoaT p.1,itoaT p.2.1,itoaT p.2.2.1,macsTx p,adTx p.2.2.2.2.1,adTx p.2.2.2.2.2] false m pw deBr=some ([],false,p):=by
  have hs:f65 (macsTx p) [44]=some ((pmacs p).map mcTx):=by
    rw [hSplit_ok (by have:=h.macsTok.hi;omega)]
    have hne:(pmacs p).map mcTx≠[]:=fun e=>by rw [List.map_eq_nil_iff] at e;have:=h.some.1;rw [e] at this;simp at this
    exact congrArg some (split_join hne fun w hw=>by
      obtain⟨x,hx,rfl⟩:=List.mem_map.1 hw
      exact(h.macs x hx).2.1)
  simp only [f127,number_ok h.id,number_ok h.sw,number_ok h.sp,bind_some',next_ok' h.macsTok.lo,hs,macs_ok h,ad_ok h.a4,ad_ok h.a6]
  rfl
theorem end_ok:f68 [] false=some true:=rfl
end Go.Top
namespace Go.Top
open Go Go.Vc Go.Lib
theorem Ins.line {i:Ins} {s} (h:i.ok s):LineOk i.words:=by
  cases i with
  | srv m=>exact h.1.line (word_tok (.inl rfl))
  | mem m=>exact h.1.line (word_tok (.inr rfl))
  | port p=>exact h.1.line
theorem line_split {i:Ins} {s} (h:i.ok s):f65 (Go.Lib.join i.words [32]) [32]=some i.words:=by
  have hl:=i.line h
  have h1:=hl.len
  rw [hSplit_ok (by
    have:(lineT i.words).length=(Go.Lib.join i.words [32]).length+1:=by simp [lineT]
    omega)]
  exact congrArg some hl.split
theorem add_srv {l:List Member} {m:Member} (hl:l.length≤10) :
    Vc.chk ((decide (0<((([(m.1,m.2.1,m.2.2.1,m.2.2.2.1,m.2.2.2.2.1,([]:List Port))]:List Member).length:Nat):Int)))&&(decide (((lastT (fun z:Member=>(z.1,z.2.1,z.2.2.1,z.2.2.2.1,z.2.2.2.2.1,lastP l)) (openL l))++([(m.1,m.2.1,m.2.2.1,m.2.2.2.1,m.2.2.2.2.1,([]:List Port))]:List Member)).length≤LIM)))
      ((idx ((lastT (fun z:Member=>(z.1,z.2.1,z.2.2.1,z.2.2.2.1,z.2.2.2.2.1,lastP l)) (openL l))++([(m.1,m.2.1,m.2.2.1,m.2.2.2.1,m.2.2.2.2.1,([]:List Port))]:List Member)) (w64 ((((lastT (fun z:Member=>(z.1,z.2.1,z.2.2.1,z.2.2.2.1,z.2.2.2.2.1,lastP l)) (openL l))++([(m.1,m.2.1,m.2.2.1,m.2.2.2.1,m.2.2.2.2.1,([]:List Port))]:List Member)).length:Int)-1))).bind fun _ =>
        some ((w64 ((((lastT (fun z:Member=>(z.1,z.2.1,z.2.2.1,z.2.2.2.1,z.2.2.2.2.1,lastP l)) (openL l))++([(m.1,m.2.1,m.2.2.1,m.2.2.2.1,m.2.2.2.2.1,([]:List Port))]:List Member)).length:Int)-1)),((lastT (fun z:Member=>(z.1,z.2.1,z.2.2.1,z.2.2.2.1,z.2.2.2.2.1,lastP l)) (openL l))++([(m.1,m.2.1,m.2.2.1,m.2.2.2.1,m.2.2.2.2.1,([]:List Port))]:List Member)))) =
      some (((l.length:Nat):Int),l++[setP m []]):=by
  rw [close_open]
  have e:([(m.1,m.2.1,m.2.2.1,m.2.2.2.1,m.2.2.2.2.1,([]:List Port))]:List Member)=[setP m []]:=rfl
  rw [e]
  have hlen:(l++[setP m []]).length=l.length+1:=by simp
  have hw:w64 (((l++[setP m []]).length:Int)-1)=((l.length:Nat):Int):=by rw [hlen,w64_id (by omega) (by omega)];omega
  rw [hw,idx_nat (k:=l.length) (x:=setP m []) (by simp),chk_true (by rw [lenLIM (by omega)];rfl)]
  rfl
theorem open_snoc (l:List Member) (m:Member):openL (l++[setP m []])=l++[setP m []]:=by
  rw [openL,lastT_snoc'];rfl
theorem empty_f {α:Type} {l:List α} (h:l≠[]):l.isEmpty=false:=by cases l<;>simp at h ⊢
theorem add_snoc (l:List Member) (m:Member) (p:Port):addP (l++[m]) p=l++[setP m (mports m++[p])]:=by rw [addP,lastT_snoc']
theorem open_add (l:List Member) (p:Port):openL (addP l p)=openL l:=by
  rcases snoc_cases l with rfl | ⟨l',m,rfl⟩
  · rfl
  · rw [add_snoc,openL,openL,lastT_snoc',lastT_snoc'];rfl
theorem lastP_add {l:List Member} (h:l≠[]) (p:Port):lastP (addP l p)=lastP l++[p]:=by
  rcases snoc_cases l with rfl | ⟨l',m,rfl⟩
  · exact absurd rfl h
  · rw [add_snoc,lastP_snoc,lastP_snoc];rfl
theorem add_len (l:List Member) (p:Port):(addP l p).length=l.length:=lastT_len l
theorem add_empty (l:List Member) (p:Port):(addP l p).isEmpty=l.isEmpty:=by
  have:=add_len l p
  cases l with
  | nil=>rfl
  | cons x l=>cases h:addP (x :: l) p with
    | nil=>rw [h] at this;simp at this
    | cons y r=>rfl
theorem drop_last {l:List Member} (h:l≠[]):decide ((List.drop (Int.toNat ((l.length-1:Nat):Int)) (openL l)).length=([(0,[],[],0,0,[])]:List Member).length)=true:=by
  refine decide_eq_true ?_
  have h1:1≤l.length:=by cases l<;>simp at h ⊢
  simp only [List.length_drop,open_len,Int.toNat_natCast,List.length_cons,List.length_nil]
  omega
theorem read_ok {i:Ins} {s:List Member×List Member} (h:i.ok s) (m:Int) :
    f69c (Go.Lib.join i.words [32]) lan4 lan6 (enc s).1 (enc s).2.1 (enc s).2.2.1 (enc s).2.2.2.1 m pw deBr (enc s).2.2.2.2.1 (enc s).2.2.2.2.2.1 (enc s).2.2.2.2.2.2.1 (enc s).2.2.2.2.2.2.2=some (true,enc (i.app s)):=by
  obtain⟨S,M⟩:=s
  have hsp:=line_split h
  unfold f69c
  rw [hsp,bind_some']
  cases i with
  | srv q =>
    obtain⟨ho,hM,hS⟩:=h
    have hM:M=[]:=hM
    subst hM
    have e1:=next_ok' (w:=serverW) (ws:=[itoaT q.1,q.2.1,dashT q.2.2.1,itoaT q.2.2.2.1,itoaT q.2.2.2.2.1]) (by decide) false
    show((f66 (wordsM serverW q) false).bind _)=_
    rw [show f66 (wordsM serverW q) false=_ from e1,bind_some']
    have hadd:f125e q.1 q.2.1 q.2.2.1 q.2.2.2.1 q.2.2.2.2.1 lan4 lan6 (enc (S,[])).1 (enc (S,[])).2.1 (enc (S,[])).2.2.1 (enc (S,[])).2.2.2.1 (openL S) (openL []) (lastP S) (lastP [])=some (((S.length:Nat):Int),S++[setP q []]):=by
      unfold f125e;exact add_srv hS
    have hemp:(S++[setP q []]).isEmpty=false:=empty_f (by simp)
    have hlen:(S++[setP q []]).length-1=S.length:=by simp
    simp only [jn_eq,show((serverW:List UInt8)==([115,101,114,118,101,114]:List UInt8))=true from rfl,if_true,show(((enc (S,([]:List Member))).2.2.2.2.2.1.length:Int)==0)=true from rfl,owner_ok ho,bind_some',
      show(enc (S,([]:List Member))).2.2.2.2.1=openL S from rfl,show(enc (S,([]:List Member))).2.2.2.2.2.1=openL [] from rfl,show(enc (S,([]:List Member))).2.2.2.2.2.2.1=lastP S from rfl,show(enc (S,([]:List Member))).2.2.2.2.2.2.2=lastP [] from rfl,hadd,end_ok]
    simp only [Ins.app,enc,hemp,hlen,open_snoc,lastP_snoc]
    rfl
  | mem q =>
    obtain⟨ho,hM⟩:=h
    have hM:M.length≤10:=hM
    have e1:=next_ok' (w:=memberW) (ws:=[itoaT q.1,q.2.1,dashT q.2.2.1,itoaT q.2.2.2.1,itoaT q.2.2.2.2.1]) (by decide) false
    show((f66 (wordsM memberW q) false).bind _)=_
    rw [show f66 (wordsM memberW q) false=_ from e1,bind_some']
    have hadd:f125f q.1 q.2.1 q.2.2.1 q.2.2.2.1 q.2.2.2.2.1 lan4 lan6 (enc (S,M)).1 (enc (S,M)).2.1 (enc (S,M)).2.2.1 (enc (S,M)).2.2.2.1 (openL S) (openL M) (lastP S) (lastP M)=some (((M.length:Nat):Int),M++[setP q []]):=by
      unfold f125f;exact add_srv hM
    have hemp:(M++[setP q []]).isEmpty=false:=empty_f (by simp)
    have hlen:(M++[setP q []]).length-1=M.length:=by simp
    simp only [jn_eq,show((memberW:List UInt8)==([115,101,114,118,101,114]:List UInt8))=false from rfl,show((memberW:List UInt8)==([109,101,109,98,101,114]:List UInt8))=true from rfl,Bool.false_eq_true,if_false,if_true,owner_ok ho,bind_some',
      show(enc (S,M)).2.2.2.2.1=openL S from rfl,show(enc (S,M)).2.2.2.2.2.1=openL M from rfl,show(enc (S,M)).2.2.2.2.2.2.1=lastP S from rfl,show(enc (S,M)).2.2.2.2.2.2.2=lastP M from rfl,hadd,end_ok]
    simp only [Ins.app,enc,hemp,hlen,open_snoc,lastP_snoc,Bool.and_false,Bool.not_false,Bool.false_and,Bool.false_eq_true,if_false]
    rfl
  | port p =>
    obtain⟨hp,hne,hl1,hl2⟩:=h
    have hl1:(lastP S).length≤10:=hl1
    have hl2:(lastP M).length≤10:=hl2
    have e1:=next_ok' (w:=portW) (ws:=[itoaT p.1,itoaT p.2.1,itoaT p.2.2.1,macsTx p,adTx p.2.2.2.2.1,adTx p.2.2.2.2.2]) (by decide) false
    show((f66 (wordsP p) false).bind _)=_
    rw [show f66 (wordsP p) false=_ from e1,bind_some']
    have w1:((portW:List UInt8)==([115,101,114,118,101,114]:List UInt8))=false:=rfl
    have w2:((portW:List UInt8)==([109,101,109,98,101,114]:List UInt8))=false:=rfl
    have w3:((portW:List UInt8)==([112,111,114,116]:List UInt8))=true:=rfl
    by_cases hM:M=[]
    · subst hM
      have hS:S≠[]:=by
        rcases hne with h | h
        · exact h
        · exact absurd rfl h
      have hSe:=empty_f hS
      have hd:=drop_last hS
      have hlim:decide ((lastP S++[p]).length≤LIM)=true:=lenLIM (by simp;omega)
      simp only [jn_eq,w1,w2,w3,Bool.false_eq_true,if_false,if_true,enc,hSe,List.isEmpty_nil,Bool.and_true,Bool.not_false,Bool.not_true,Bool.true_and,chk_true hd,port_ok hp,bind_some',chk_true hlim,end_ok]
      simp only [Ins.app,List.isEmpty_nil,if_true,add_empty,hSe,add_len,open_add,lastP_add hS,Bool.and_true,Bool.not_false,Bool.not_true,Bool.true_and]
    · have hMe:=empty_f hM
      have hd:=drop_last hM
      have hlim:decide ((lastP M++[p]).length≤LIM)=true:=lenLIM (by simp;omega)
      simp only [jn_eq,w1,w2,w3,Bool.false_eq_true,if_false,if_true,enc,hMe,Bool.and_false,Bool.not_false,Bool.false_and,chk_true hd,port_ok hp,bind_some',chk_true hlim,end_ok]
      simp only [Ins.app,hMe,Bool.false_eq_true,if_false,add_empty,add_len,open_add,lastP_add hM,Bool.and_false,Bool.not_false,Bool.false_and]
end Go.Top
namespace Go.Top
open Go Go.Vc Go.Lib
def ownI (srv:Bool) (m:Member):List Ins:=(if srv then Ins.srv m else Ins.mem m) :: (mports m).map Ins.port
def insOf (d:Database):List Ins:=(d.2.2.1.map (ownI true)).flatten++(d.2.2.2.map (ownI false)).flatten
theorem ins_lines (d:Database):((ow d).map ownL).flatten=(insOf d).map Ins.words:=by
  have key:∀ (b:Bool) (w:List UInt8),(w=if b then serverW else memberW)→∀ l:List Member,((l.map fun m=>(w,m)).map ownL).flatten=((l.map (ownI b)).flatten).map Ins.words:=fun b w hw l=>by
    subst hw
    induction l with
    | nil=>rfl
    | cons m l ih =>
      simp only [List.map_cons,List.flatten_cons,List.map_append,ih]
      congr 1
      cases b<;>simp [ownL,ownI,Ins.words]
  unfold ow insOf
  rw [List.map_append,List.flatten_append,List.map_append,key true serverW rfl,key false memberW rfl]
theorem runs_ports {m:Member}:∀ (ps done:List Port),(∀ p∈ps,PortT p)→done.length+ps.length≤10 →
    (∀ S,Runs (ps.map Ins.port) (S++[setP m done],[]) (S++[setP m (done++ps)],[]))∧(∀ S M,(lastP S).length≤10→Runs (ps.map Ins.port) (S,M++[setP m done]) (S,M++[setP m (done++ps)]))
  | [],done,_,_=>by rw [List.append_nil];exact⟨fun S => .nil _,fun S M _ => .nil _⟩
  | p :: ps,done,h,hl=>by
    simp only [List.length_cons] at hl
    obtain⟨i1,i2⟩:=runs_ports (m:=m) ps (done++[p]) (fun q hq=>h q (List.mem_cons_of_mem _ hq)) (by simp;omega)
    have hp:=h p (List.mem_cons_self ..)
    have e:done++p :: ps=done++[p]++ps:=by simp
    rw [e]
    refine⟨fun S => .cons (i:=.port p) ⟨hp,.inl (by simp),by rw [lastP_snoc];show done.length≤10;omega,Nat.zero_le _⟩ ?_,fun S M hS => .cons (i:=.port p) ⟨hp,.inr (by simp),hS,by rw [lastP_snoc];show done.length≤10;omega⟩ ?_⟩
    · have:(Ins.port p).app (S++[setP m done],[])=(S++[setP m (done++[p])],[]):=by
        simp only [Ins.app,List.isEmpty_nil,if_true,add_snoc];rfl
      rw [this];exact i1 S
    · have:(Ins.port p).app (S,M++[setP m done])=(S,M++[setP m (done++[p])]):=by
        have he:(M++[setP m done]).isEmpty=false:=empty_f (by simp)
        simp only [Ins.app,he,Bool.false_eq_true,if_false,add_snoc];rfl
      rw [this];exact i2 S M hS
theorem runs_srv:∀ (l S:List Member),(∀ m∈l,OwnT m∧(mports m).length≤2)→S.length+l.length≤10→Runs ((l.map (ownI true)).flatten) (S,[]) (S++l,[])
  | [],S,_,_=>by rw [List.append_nil];exact .nil _
  | m :: l,S,h,hl=>by
    simp only [List.length_cons] at hl
    obtain⟨h1,h2⟩:=h m (List.mem_cons_self ..)
    have ih:=runs_srv l (S++[m]) (fun q hq=>h q (List.mem_cons_of_mem _ hq)) (by simp;omega)
    have e:S++m :: l=S++[m]++l:=by simp
    rw [e,List.map_cons,List.flatten_cons]
    refine Runs.app ?_ ih
    refine .cons (i:=.srv m) ⟨h1,rfl,by show S.length≤10;omega⟩ ?_
    have:=(runs_ports (m:=m) (mports m) [] h1.pts (by simp;omega)).1 S
    exact this
theorem runs_mem (S:List Member) (hS:(lastP S).length≤10):∀ (l M:List Member),(∀ m∈l,OwnT m∧(mports m).length≤2)→M.length+l.length≤10→Runs ((l.map (ownI false)).flatten) (S,M) (S,M++l)
  | [],M,_,_=>by rw [List.append_nil];exact .nil _
  | m :: l,M,h,hl=>by
    simp only [List.length_cons] at hl
    obtain⟨h1,h2⟩:=h m (List.mem_cons_self ..)
    have ih:=runs_mem S hS l (M++[m]) (fun q hq=>h q (List.mem_cons_of_mem _ hq)) (by simp;omega)
    have e:M++m :: l=M++[m]++l:=by simp
    rw [e,List.map_cons,List.flatten_cons]
    refine Runs.app ?_ ih
    refine .cons (i:=.mem m) ⟨h1,by show M.length≤10;omega⟩ ?_
    have:=(runs_ports (m:=m) (mports m) [] h1.pts (by simp;omega)).2 S M hS
    exact this
theorem Made.runs {d:Database} (h:Made d):Runs (insOf d) ([],[]) (d.2.2.1,d.2.2.2):=by
  have hs:=h.ls
  have hm:=h.lm
  have ho:∀ m∈owners d,OwnT m∧(mports m).length≤2:=fun m hm=>⟨h.ownT m hm,(h.own m hm).few.2⟩
  have r1:=runs_srv d.2.2.1 [] (fun m hm=>ho m (List.mem_append_left _ hm)) (by simp;omega)
  have hl:(lastP d.2.2.1).length≤10:=by
    rcases snoc_cases d.2.2.1 with e | ⟨l,m,e⟩
    · rw [e];exact Nat.zero_le _
    · have:=(ho m (List.mem_append_left _ (by rw [e];simp))).2
      rw [e,lastP_snoc];omega
  have r2:=runs_mem d.2.2.1 hl d.2.2.2 [] (fun m hm=>ho m (List.mem_append_right _ hm)) (by simp;omega)
  exact r1.app r2
theorem read_loop {m:Int} {ys:List (List UInt8)} {l:List Ins} {t:List Member×List Member} (hys:ys=l.map fun i=>Go.Lib.join i.words [32]) (hl:l.length≤1000) (h:Runs l ([],[]) t) {x5 x6:List (List UInt8)×(Bool×Prefix)} (h5:x5.2.2=lan4) (h6:x6.2.2=lan6) :
    loopF (f32L0 m pw deBr x5 x6 ys) (0,enc ([],[]))=some (.inl (enc t)):=by
  obtain⟨x,h1,h2⟩:=loopF_inv (tb:=f32L0 m pw deBr x5 x6 ys) (Q:=fun x=>x = .inl (enc t))
    (Inv:=fun k s=>∃ (i:Nat) (rest:List Ins) (u:List Member×List Member),rest.length=k∧i+k=l.length∧l.drop i=rest∧Runs rest u t∧s=((i:Int),enc u))
    (fun k s ⟨i,rest,u,g1,g2,g3,g4,g5⟩=>by
      subst g5
      cases g4 with
      | nil=>simp at g1
      | @cons a r _ _ hok hr =>
        have hlt:i<l.length:=by omega
        have hat:l[i]? = some a:=by
          have:=congrArg (fun q=>q[0]?) g3
          simpa using this
        have hy:ys[i]? = some (Go.Lib.join a.words [32]):=by rw [hys,List.getElem?_map,hat];rfl
        refine⟨_,?_,i+1,r,a.app u,by simpa using g1,by omega,by rw [← List.drop_drop,g3];rfl,hr,rfl⟩
        have hrd:=read_ok hok m
        simp only [f32L0,lt_len hy,if_true,idx_nat hy,bind_some',h5,h6,hrd,Bool.not_true,Bool.false_eq_true,if_false]
        rw [w64_succ (by omega)])
    (fun s ⟨i,rest,u,g1,g2,g3,g4,g5⟩=>by
      subst g5
      have:rest=[]:=List.eq_nil_of_length_eq_zero g1
      subst this
      cases g4
      have hi:i=ys.length:=by rw [hys,List.length_map];omega
      refine⟨_,?_,rfl⟩
      rw [hi]
      simp only [f32L0,at_len,Bool.false_eq_true,if_false])
    (n:=l.length) (by omega) (s:=(0,enc ([],[]))) ⟨0,l,([],[]),rfl,by omega,rfl,h,rfl⟩
  rw [h1,h2]
theorem f67_4 (m:Int) (ws:List (List UInt8)):f67 (l4 :: ws) false m pw deBr=some (ws,false,lan4):=by
  have h:=l4_tab m
  simp only [Bool.and_eq_true,beq_iff_eq] at h
  obtain⟨h1,h2,h3⟩:=h
  simp only [f67,next_ok' (TokW.of h1).1.lo,bind_some',h3,Bool.false_eq_true,if_false,show((0:Int) != 0)=false from rfl,h2,beq_self_eq_true,Bool.not_true]
theorem f67_6 (m:Int) (ws:List (List UInt8)):f67 (l6 :: ws) false m pw deBr=some (ws,false,lan6):=by
  have h:=l6_tab m
  simp only [Bool.and_eq_true,beq_iff_eq] at h
  obtain⟨h1,h2,h3⟩:=h
  simp only [f67,next_ok' (TokW.of h1).1.lo,bind_some',h3,Bool.false_eq_true,if_false,show((0:Int) != 0)=false from rfl,h2,beq_self_eq_true,Bool.not_true]
theorem f32_ok {d:Database} (h:Made d) (m:Int):f32 (textD d) m pw deBr=some (0,d):=by
  obtain⟨ht,hl⟩:=h.text_len
  have e4:d.1=lan4:=h.lan4
  have e6:d.2.1=lan6:=h.lan6
  have hd:d=(lan4,lan6,d.2.2.1,d.2.2.2):=by rw [← e4,← e6]
  have hlim:decide (65536<((textD d).length:Int))=false:=decide_eq_false (by omega)
  have hsp:f65 (textD d) [10]=some ((linesD d).map (fun ws=>Go.Lib.join ws [32])++[[]]):=by
    rw [hSplit_ok (by omega)]
    exact congrArg some (lines_split h.lineOk)
  have hll:((linesD d).map (fun ws=>Go.Lib.join ws [32])++[[]]).length=(linesD d).length+1:=by simp
  have hw:w64 ((((linesD d).map (fun ws=>Go.Lib.join ws [32])++[[]]).length:Int)-1)=(((linesD d).length:Nat):Int):=by rw [hll,w64_id (by omega) (by omega)];omega
  have hlast:idx ((linesD d).map (fun ws=>Go.Lib.join ws [32])++[[]]) (((linesD d).length:Nat):Int)=some []:=idx_nat (by
    rw [List.getElem?_append_right (by simp)];simp)
  have hfirst:idx ((linesD d).map (fun ws=>Go.Lib.join ws [32])++[[]]) 0=some (Go.Lib.join [lanW,l4,l6] [32]):=idx_nat (k:=0) rfl
  have hl1:=h.lineOk [lanW,l4,l6] (List.mem_cons_self ..)
  have hfs:f65 (Go.Lib.join [lanW,l4,l6] [32]) [32]=some [lanW,l4,l6]:=by
    have h1:=hl1.len
    rw [hSplit_ok (by
      have:(lineT [lanW,l4,l6]).length=(Go.Lib.join [lanW,l4,l6] [32]).length+1:=by simp [lineT]
      omega)]
    exact congrArg some hl1.split
  have hnx:=next_ok' (w:=lanW) (ws:=[l4,l6]) (by decide) false
  have hchk:(leT (((linesD d).length:Nat):Int) ((linesD d).map (fun ws=>Go.Lib.join ws [32])++[[]]).length&&leT 1 (List.take (Int.toNat (((linesD d).length:Nat):Int)) ((linesD d).map (fun ws=>Go.Lib.join ws [32])++[[]])).length)=true:=by
    have:1≤(linesD d).length:=by simp [linesD]
    simp [leT];omega
  have hys:List.drop (Int.toNat 1) (List.take (Int.toNat (((linesD d).length:Nat):Int)) ((linesD d).map (fun ws=>Go.Lib.join ws [32])++[[]]))=(insOf d).map fun i=>Go.Lib.join i.words [32]:=by
    have:List.take (Int.toNat (((linesD d).length:Nat):Int)) ((linesD d).map (fun ws=>Go.Lib.join ws [32])++[[]])=(linesD d).map (fun ws=>Go.Lib.join ws [32]):=by
      rw [Int.toNat_natCast,List.take_append_of_le_length (by simp),List.take_of_length_le (by simp)]
    rw [this]
    show List.drop 1 _=_
    rw [linesD,ins_lines,List.map_cons,List.drop_succ_cons,List.drop_zero,List.map_map]
    rfl
  have hil:(insOf d).length≤1000:=by
    have:(insOf d).length=((insOf d).map Ins.words).length:=by simp
    rw [this,← ins_lines]
    simp only [linesD,List.length_cons] at hl
    omega
  have loop:=read_loop (m:=m) (x5:=([l6],false,lan4)) (x6:=(([]:List (List UInt8)),false,lan6)) rfl hil h.runs rfl rfl
  have loop:loopF (f32L0 m pw deBr ([l6],false,lan4) ([],false,lan6) ((insOf d).map fun i=>Go.Lib.join i.words [32])) (0,false,false,0,0,[],[],[],[])=some (.inl (enc (d.2.2.1,d.2.2.2))):=loop
  have hc:f63 (lan4,lan6,d.2.2.1,d.2.2.2)=some 0:=by rw [← hd];exact f63_ok h
  have c1:=close_open d.2.2.1
  have c2:=close_open d.2.2.2
  simp only [f32,hlim,Bool.false_eq_true,if_false,hsp,bind_some',hw,hlast,show(!(([]:List UInt8)==[]))=false from rfl,hfirst,hfs,hnx,f67_4,f67_6,show(!(lanW==([108,97,110]:List UInt8)))=false from rfl,end_ok,Bool.not_true,chk_true hchk,hys,loop,caseT,
    show(enc (d.2.2.1,d.2.2.2)).2.2.2.2.1=openL d.2.2.1 from rfl,show(enc (d.2.2.1,d.2.2.2)).2.2.2.2.2.1=openL d.2.2.2 from rfl,show(enc (d.2.2.1,d.2.2.2)).2.2.2.2.2.2.1=lastP d.2.2.1 from rfl,show(enc (d.2.2.1,d.2.2.2)).2.2.2.2.2.2.2=lastP d.2.2.2 from rfl,c1,c2,hc,show((0:Int) != 0)=false from rfl]
  rw [← hd]
end Go.Top
namespace Go.Top
open Go Go.Vc
theorem loopF_any {α X:Type} {l:List α} (hl:l.length≤100000) {tb:Int→Option (X⊕Int)} {Q:X→Prop} (step:∀ (i:Nat) a,l[i]? = some a→tb (i:Int)=some (.inr (((i+1:Nat):Int)))∨∃ x,tb (i:Int)=some (.inl x)∧Q x) (fin:∃ x,tb (l.length:Int)=some (.inl x)∧Q x):∃ x,loopF tb 0=some x∧Q x:=by
  have key:∀ k i,i+k=l.length→∃ x,iter tb (k+1) (i:Int)=some x∧Q x:=by
    intro k
    induction k with
    | zero =>
      intro i h
      have:i=l.length:=by omega
      subst this
      obtain⟨x,h1,h2⟩:=fin
      exact⟨x,by rw [iter,h1];rfl,h2⟩
    | succ k ih =>
      intro i h
      rcases step i _ (List.getElem?_eq_getElem (show i<l.length by omega)) with h1 | ⟨x,h1,h2⟩
      · obtain⟨x,h3,h4⟩:=ih (i+1) (by omega)
        exact⟨x,by rw [iter,h1];exact h3,h4⟩
      · exact⟨x,by rw [iter,h1];rfl,h2⟩
  obtain⟨x,h1,h2⟩:=key l.length 0 (by omega)
  exact⟨x,loopF_of (by omega) h1,h2⟩
theorem f107_ok {ms:List MAC} (h:1≤ms.length) (h2:ms.length≤100):f107 ms=some ms:=by
  unfold f107
  rw [if_pos (decide_eq_true (by omega)),chk_true (lenLIM (by simp;omega)),List.nil_append]
theorem f191_ok {ms:List Port} (h:1≤ms.length) (h2:ms.length≤100):f191 ms=some ms:=by
  unfold f191
  rw [if_pos (decide_eq_true (by omega)),chk_true (lenLIM (by simp;omega)),List.nil_append]
theorem set_self {α:Type} {l:List α} {i:Nat} {a:α} (h:l[i]? = some a):l.set i a=l:=by
  obtain⟨hi,he⟩:=List.getElem?_eq_some_iff.1 h
  rw [← he];exact List.set_getElem_self ..
theorem Row.pmacs {l:List Port} (h:Row l) {i:Nat} {p:Port} (hi:l[i]? = some p):1≤(Top.pmacs p).length∧(Top.pmacs p).length≤2:=by
  rcases pmacs_of (h.2 i p hi) with e | e<;>rw [e]<;>simp
theorem f128_ok {l:List Port} (h:Row l) (h1:1≤l.length):f128 (0,[],[],0,0,l)=some (l,0,[],[],0,0):=by
  have hl:=h.1
  have loop:=loopF_range (tb:=f128L0 l) (x:=l) (fun i=>((i:Int),l)) l.length (by omega) (fun i hi=>by
    have ha:=List.getElem?_eq_getElem hi
    generalize hq:l[i]=p at ha
    have hm:=h.pmacs ha
    have hc:f107 p.2.2.2.1=some p.2.2.2.1:=f107_ok hm.1 (by have:(Top.pmacs p).length=p.2.2.2.1.length:=rfl;omega)
    have hs:List.set l (Int.toNat (i:Int)) (p.1,p.2.1,p.2.2.1,p.2.2.2.1,p.2.2.2.2)=l:=by rw [Int.toNat_natCast];exact set_self ha
    simp only [f128L0,lt_len ha,if_true,idx_nat ha,bind_some',hc,hs,le_len ha (by omega),decide_true,Bool.and_self]
    rfl) (by
    simp only [f128L0,at_len,Bool.false_eq_true,if_false])
  have loop:loopF (f128L0 l) (0,l)=some l:=loop
  simp only [f128,f191_ok h1 (by omega),bind_some',loop]
theorem Row.lt {l:List Port} (h:Row l) {i:Nat} {p q:Port} (hp:l[i]? = some p) (hq:l[i+1]? = some q):p.1<q.1:=by
  obtain⟨o,ho,e1⟩:=id_of (h.2 i p hp)
  obtain⟨o',ho',e2⟩:=id_of (h.2 (i+1) q hq)
  rw [e1,e2];omega
theorem f132_gt {a b:Int} (h:b<a):f132 a b=some 1:=by
  have h1:decide (a<b)=false:=decide_eq_false (by omega)
  have h2:decide (b<a)=true:=decide_eq_true h
  have h3:∀ x:Int,f193 x=some false:=fun x=>by simp [f193]
  simp only [f132,h3,bind_some',Bool.false_eq_true,if_false,h1,h2,if_true]
theorem sorted_step {l:List Port} (h:Row l) {i:Nat} (h1:1≤i) (hi:i<l.length):f232L1 0 ((i:Int),l)=some (.inl l):=by
  obtain⟨k,rfl⟩:∃ k,i=k+1:=⟨i-1,by omega⟩
  have hl:=h.1
  have hp:=List.getElem?_eq_getElem (show k<l.length by omega)
  have hq:=List.getElem?_eq_getElem hi
  have hlt:=h.lt hp hq
  have hw:w64 (((k+1:Nat):Int)-1)=(k:Int):=by rw [w64_id (by omega) (by omega)];omega
  have hc:f131 l[k+1] l[k]=some 1:=by simp only [f131,f132_gt hlt,bind_some']
  have h0:decide (0<((k+1:Nat):Int))=true:=decide_eq_true (by omega)
  simp only [f232L1,h0,if_true,idx_nat hq,bind_some',hw,idx_nat hp,hc,show decide ((1:Int)<0)=false from rfl,Bool.false_eq_true,if_false]
theorem f232_ok {l:List Port} (h:Row l):f232 0 (l.length:Int) l=some l:=by
  have hl:=h.1
  have loop:loopF (f232L0 0 (l.length:Int)) (1,l)=some l:=by
    by_cases h0:l.length=0
    · refine loopF_of (n:=1) (by decide) ?_
      have:decide ((1:Int)<(l.length:Int))=false:=decide_eq_false (by omega)
      simp only [iter,f232L0,this,Bool.false_eq_true,if_false,bind_some']
    · have:=loopF_range (tb:=f232L0 0 (l.length:Int)) (x:=l) (fun i=>(((i+1:Nat):Int),l)) (l.length-1) (by omega) (fun i hi=>by
        have hlt:decide (((i+1:Nat):Int)<(l.length:Int))=true:=decide_eq_true (by omega)
        have hs:=sorted_step h (i:=i+1) (by omega) (by omega)
        have hin:loopF (f232L1 0) (((i+1:Nat):Int),l)=some l:=loopF_of (n:=1) (by decide) (by rw [iter,hs];rfl)
        simp only [f232L0,hlt,if_true,hin,bind_some',w64_succ (show i+1≤4611686018427387904 by omega)]) (by
        have:decide (((l.length-1+1:Nat):Int)<(l.length:Int))=false:=decide_eq_false (by omega)
        simp only [f232L0,this,Bool.false_eq_true,if_false])
      exact this
  simp only [f232,show w64 (0+1)=1 from rfl,loop,bind_some']
theorem f130_ok {l:List Port} (h:Row l):f130 l=some l:=by
  have hl:=h.1
  have l0:loopF (f192L0 (l.length:Int)) (0,20,l)=some (0,l):=loopF_of (n:=1) (by decide) (by
    have:decide ((20:Int)≤(l.length:Int))=false:=decide_eq_false (by omega)
    simp only [iter,f192L0,this,Bool.false_eq_true,if_false,bind_some'])
  have l1:loopF (f192L1 (l.length:Int)) 20=some ():=loopF_of (n:=1) (by decide) (by
    have:decide ((20:Int)<(l.length:Int))=false:=decide_eq_false (by omega)
    simp only [iter,f192L1,this,Bool.false_eq_true,if_false,bind_some'])
  simp only [f130,f192,l0,bind_some',f232_ok h,l1,decide_true]
  rfl
theorem f70_ok {d:Database} (h:Made d):f70 d=some (allP (owners d)):=by
  have hf:=h.few
  have hs:=h.ls
  have hm:=h.lm
  have hr:=h.row
  have h1:1≤(allP (owners d)).length:=by
    have h2:=hf.2.1
    match ho:owners d,h2 with
    | m :: l,_ =>
      have:=(h.own m (by rw [ho];exact List.mem_cons_self ..)).few.1
      simp only [allP,List.map_cons,List.flatten_cons,List.length_append]
      omega
  simp only [f70,f129_ok (show d.2.2.1.length≤1000 by omega) (show d.2.2.2.length≤1000 by omega) (by omega),bind_some',f128_ok hr h1,f130_ok hr,decide_true]
  rfl
theorem f71_ok {d:Database} (h:Made d) (k:Int):∃ a b,f71 d k=some (a,b):=by
  have hf:=h.few
  have hs:=h.ls
  have hm:=h.lm
  obtain⟨x,hx,_⟩:=loopF_any (l:=owners d) (by omega) (tb:=f71L0 k (owners d)) (Q:=fun _=>True) (fun i a ha=>by
    have hfew:(mports a).length≤2:=(h.own a (List.mem_of_getElem? ha)).few.2
    obtain⟨y,hy,_⟩:=loopF_any (l:=a.2.2.2.2.2) (by have:a.2.2.2.2.2.length=(mports a).length:=rfl;omega) (tb:=f71L1 k a) (Q:=fun _=>True) (fun j p hp=>by
      cases he:(p.1==k) with
      | true=>exact .inr ⟨.inr a.1,by simp only [f71L1,lt_len hp,if_true,idx_nat hp,bind_some',he],trivial⟩
      | false=>exact .inl (by simp only [f71L1,lt_len hp,if_true,idx_nat hp,bind_some',he,Bool.false_eq_true,if_false,le_len hp (by have:a.2.2.2.2.2.length=(mports a).length:=rfl;omega)])) ⟨.inl (),by simp only [f71L1,at_len,Bool.false_eq_true,if_false],trivial⟩
    cases y with
    | inl u=>exact .inl (by simp only [f71L0,lt_len ha,if_true,idx_nat ha,bind_some',hy,caseT,le_len ha (by omega)])
    | inr v=>exact .inr ⟨.inr v,by simp only [f71L0,lt_len ha,if_true,idx_nat ha,bind_some',hy,caseT],trivial⟩) ⟨.inl (),by simp only [f71L0,at_len,Bool.false_eq_true,if_false],trivial⟩
  cases x with
  | inl u=>exact⟨0,false,by simp only [f71,f117_ok (show d.2.2.1.length≤1000 by omega) (show d.2.2.2.length≤1000 by omega),bind_some',hx,caseT]⟩
  | inr v=>exact⟨v,true,by simp only [f71,f117_ok (show d.2.2.1.length≤1000 by omega) (show d.2.2.2.length≤1000 by omega),bind_some',hx,caseT]⟩
def oneT (a:Addr):List Addr:=if Ty.eqT cAddr a zeroA=true then [] else [a]
theorem f72_ok (a:Addr):f72 a=some (oneT a):=by
  unfold f72 oneT
  show(if Ty.eqT cAddr a zeroA=true then _ else _)=_
  split<;>rfl
structure RulesOf (l:List Port) (r:List Rule):Prop where
  len:r.length=l.length
  get:∀ (i:Nat) p,l[i]? = some p→∃ a:Int,r[i]? = some (p.1,a,p.2.1,p.2.2.2.1,oneT p.2.2.2.2.1,oneT p.2.2.2.2.2,2,3)
theorem f33_ok {d:Database} (h:Made d):∃ r,f33 d 2 3=some (r,0)∧RulesOf (allP (owners d)) r:=by
  have hf:=h.few
  generalize hl:allP (owners d)=l at hf
  obtain⟨r,h1,h2⟩:=loopF_inv (tb:=f33L0 d 2 3 l) (Q:=fun r=>RulesOf l r)
    (Inv:=fun k s=>∃ (i:Nat) (acc:List Rule),i+k=l.length∧acc.length=i∧(∀ (j:Nat) p,j<i→l[j]? = some p→∃ a:Int,acc[j]? = some (p.1,a,p.2.1,p.2.2.2.1,oneT p.2.2.2.2.1,oneT p.2.2.2.2.2,2,3))∧s=((i:Int),acc))
    (fun k s ⟨i,acc,g1,g2,g3,g4⟩=>by
      subst g4
      have ha:=List.getElem?_eq_getElem (show i<l.length by omega)
      generalize l[i]=p at ha
      obtain⟨a,b,hab⟩:=f71_ok h p.1
      refine⟨_,?_,i+1,acc++[(p.1,a,p.2.1,p.2.2.2.1,oneT p.2.2.2.2.1,oneT p.2.2.2.2.2,2,3)],by omega,by simp [g2],fun j q hj hq => ?_,rfl⟩
      · simp only [f33L0,lt_len ha,if_true,idx_nat ha,bind_some',hab,f72_ok]
        have hq:(acc++[((p.1,a,p.2.1,p.2.2.2.1,oneT p.2.2.2.2.1,oneT p.2.2.2.2.2,2,3):Rule)]).length≤4294967296:=by simp;omega
        rw [chk_true (lenLIM hq),le_len ha (by omega)]
      · by_cases hj2:j<i
        · obtain⟨a',ha'⟩:=g3 j q hj2 hq
          exact⟨a',by rw [List.getElem?_append_left (by omega)];exact ha'⟩
        · have:j=i:=by omega
          subst this
          rw [ha] at hq;cases hq
          exact⟨a,by rw [List.getElem?_append_right (by omega),g2,Nat.sub_self];rfl⟩)
    (fun s ⟨i,acc,g1,g2,g3,g4⟩=>by
      subst g4
      have hi:i=l.length:=by omega
      refine⟨acc,?_,by omega,fun j p hp=>g3 j p (by have:=len_of hp;omega) hp⟩
      rw [hi]
      simp only [f33L0,at_len,Bool.false_eq_true,if_false])
    (n:=l.length) (by omega) (s:=(0,[])) ⟨0,[],by omega,rfl,fun j p hj _=>by omega,rfl⟩
  refine⟨r,?_,h2⟩
  have h70:=f70_ok h
  rw [hl] at h70
  simp only [f33,f63_ok h,bind_some',show((0:Int) != 0)=false from rfl,show decide ((3:Int)<0)=false from rfl,show decide ((1048576:Int)<3)=false from rfl,show decide ((2:Int)<0)=false from rfl,show decide ((3:Int)<2)=false from rfl,Bool.false_eq_true,if_false,h70,h1]
end Go.Top
namespace Go.Top
open Go Go.Vc
theorem f136_tab:portChk 14 (fun _ p=>f136 p==some false)=true:=by kernel_rfl
end Go.Top
