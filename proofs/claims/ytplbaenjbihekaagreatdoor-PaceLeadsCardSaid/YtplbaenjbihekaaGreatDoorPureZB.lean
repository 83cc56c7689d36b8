/- Which messages are valid, lists cut into messages, in plain Lean. -/
import Derived.Test.YtplbaenjbihekaaGreatDoorPureZA
namespace Go.Proofs.YtplbaenjbihekaaGreatDoor
open Go Go.Vc
def aw (c:Nat):Nat:=if c=0 then 0 else hd (3+c)+(3+c)
def aa (x:E7) (c:Nat):Nat:=alen x+(if x.fV6=true then hd (21+c)+(21+c) else 0)
structure VW (l:List A0):Prop where
 len:l.length≤256
 val:∀ p∈l,pV p
 att:aw (clen true l)≤2048
 all:4+clen false l+aw (clen true l)≤4077
structure VA (x:E7) (l:List A0):Prop where
 len:l.length≤256
 val:∀ p∈l,pV p
 fam:∀ p∈l,p.fAddr.fV6=x.fV6
 att:aa x (clen true l)≤2048
 all:4+aa x (clen true l)+clen false l≤4077
open Classical in
noncomputable def bW (l:List A0):Bool:=decide (VW l)
open Classical in
noncomputable def bA (x:E7) (l:List A0):Bool:=decide (VA x l)
theorem B2g {l:List A0}:bW l=true↔VW l:=by unfold bW;simp
theorem B2h {x:E7} {l:List A0}:bA x l=true↔VA x l:=by unfold bA;simp
theorem B1i {o:Option Bool} {p:Prop} {b:Bool} (h:Tot o (fun r=>r=true↔p)) (hb:b=true↔p):o=some b:=by
 obtain⟨r,e,hr⟩:=h
 rw [e]
 congr 1
 rw [Bool.eq_iff_iff,hr,hb]
def uW (l:List A0):C9:=C9.mk l noD []
def uA (n:Int) (x:E7) (m:Int) (l:List A0):C9:=C9.mk [] (mkD n x m) l
theorem B08 {l:List A0} (hl:∀ p∈l,aR p.fAddr) (hn:l.length≤100000):Tot (J1 l) (fun b=>b=true↔¬ ∀ p∈l,pV p):=by
 unfold J1 Y5
 refine Tot.bind (Tot.bindRng l.length (fun k (_:Unit)=>(k:Int)) (fun k _=>∀ p∈l.take k,pV p) (fun x=>(x = .inr ()∧∀ p∈l,pV p)∨∃ k:Nat,x = .inl k∧¬ ∀ p∈l,pV p) () rfl (by simp) (fun k b hk hb => ?_) (fun b hb => ?_) (fun x hx => ?_))
 ·unfold N5
  refine Tot.iteT (by simpa using hk) ?_
  refine Tot.bindIdx k rfl hk ?_
  refine Tot.bindOf (x:=!validF l[k]) (by unfold A0o;rw [A9p (hl _ (List.getElem_mem hk))];rfl) ?_
  refine Tot.ite (fun e => ?_) (fun e => ?_)
  ·refine Tot.stop (.inr ⟨k,rfl,fun h => ?_⟩)
   have:=h _ (List.getElem_mem hk)
   rw [← A1h] at this
   rw [this] at e;cases e
  ·refine Tot.step () (F3 hk (by omega)) ?_
   intro p hp
   rw [G8 hk] at hp
   rcases List.mem_append.1 hp with hp | hp
   ·exact hb p hp
   ·rw [List.mem_singleton.1 hp]
    exact A1h.1 (by simpa using e)
 ·unfold N5
  refine Tot.iteF (by simp) ?_
  rw [List.take_length] at hb
  exact Tot.last (.inl ⟨rfl,hb⟩)
 ·rcases hx with ⟨rfl,hx⟩ | ⟨k,rfl,hx⟩
  ·exact Tot.some (Tot.some (by simp;exact hx))
  ·exact Tot.some (Tot.some (by simp only [Int.natCast_nonneg,decide_true,true_iff];exact hx))
theorem B5w {u:C9} {l:List A0} (hn:l.length≤100000):Tot (L0 l u) (fun b=>b=true↔¬ ∀ p∈l,p.fAddr.fV6=u.fAttrs.fNext.fV6):=by
 unfold L0 T6
 refine Tot.bind (Tot.bindRng l.length (fun k (_:Unit)=>(k:Int)) (fun k _=>∀ p∈l.take k,p.fAddr.fV6=u.fAttrs.fNext.fV6) (fun x=>(x = .inr ()∧∀ p∈l,p.fAddr.fV6=u.fAttrs.fNext.fV6)∨∃ k:Nat,x = .inl k∧¬ ∀ p∈l,p.fAddr.fV6=u.fAttrs.fNext.fV6) () rfl (by simp) (fun k b hk hb => ?_) (fun b hb => ?_) (fun x hx => ?_))
 ·unfold K9
  refine Tot.iteT (by simpa using hk) ?_
  refine Tot.bindIdx k rfl hk ?_
  refine Tot.bindOf (x:=l[k].fAddr.fV6 != u.fAttrs.fNext.fV6) rfl ?_
  refine Tot.ite (fun e => ?_) (fun e => ?_)
  ·refine Tot.stop (.inr ⟨k,rfl,fun h => ?_⟩)
   have:=h _ (List.getElem_mem hk)
   rw [this] at e;simp at e
  ·refine Tot.step () (F3 hk (by omega)) ?_
   intro p hp
   rw [G8 hk] at hp
   rcases List.mem_append.1 hp with hp | hp
   ·exact hb p hp
   ·rw [List.mem_singleton.1 hp]
    simpa using e
 ·unfold K9
  refine Tot.iteF (by simp) ?_
  rw [List.take_length] at hb
  exact Tot.last (.inl ⟨rfl,hb⟩)
 ·rcases hx with ⟨rfl,hx⟩ | ⟨k,rfl,hx⟩
  ·exact Tot.some (Tot.some (by simp;exact hx))
  ·exact Tot.some (Tot.some (by simp only [Int.natCast_nonneg,decide_true,true_iff];exact hx))
theorem B1j {u:C9} {J:Nat} (hl:Tot (T1 u) (fun L=>(∀ y∈L,uok y)∧L.length≤100∧jlen L=J)) (hW:∀ p∈u.fWithdraw,pV p) (hW2:u.fWithdraw.length≤256) (hA:∀ p∈u.fAnnounce,pV p) (hA2:u.fAnnounce.length≤256) :
  Tot (A1s u) (fun r=>r.2=true↔J≤2048∧4+clen false u.fWithdraw+J+clen false u.fAnnounce≤4077):=by
 unfold A1s
 refine Tot.bindT hl fun L hL => ?_
 refine Tot.bindT (B4u hL.1 hL.2.1) fun r2 h2 => ?_
 refine Tot.bindT (A5u hW hW2 false) fun r3 h3 => ?_
 have c3:=A5b false u.fWithdraw hW
 have c4:=A5b false u.fAnnounce hA
 refine Tot.bindT (show Tot (A24 _) (fun b=>b.length=2) from Tot.chk (decide_eq_true (show _≤4294967296 by simp)) (Tot.some rfl)) fun r4 h4 => ?_
 refine Tot.chk (decide_eq_true (show _≤4294967296 by rw [List.length_append];omega)) ?_
 refine Tot.bindT (show Tot (A25 (r4++r3) _) (fun b=>b.length=4+clen false u.fWithdraw) from Tot.chk (decide_eq_true (show _≤4294967296 by simp;omega)) (Tot.some (by simp;omega))) fun r6 h6 => ?_
 refine Tot.chk (decide_eq_true (show _≤4294967296 by rw [List.length_append];omega)) ?_
 refine Tot.bindT (A6r hA hA2 false (b0:=r6++r2.1) (by rw [List.length_append];omega)) fun r8 h8 => ?_
 rw [List.length_append] at h8
 refine Tot.some ?_
 simp only [Bool.and_eq_true,beq_iff_eq,decide_eq_true_eq]
 rw [h2.1,hL.2.2]
 constructor
 ·rintro⟨g1,g2⟩
  have:=h2.2.1 (by rw [hL.2.2];exact g1)
  rw [hL.2.2] at this
  exact⟨g1,by omega⟩
 ·rintro⟨g1,g2⟩
  have:=h2.2.1 (by rw [hL.2.2];exact g1)
  rw [hL.2.2] at this
  exact⟨g1,by omega⟩
theorem sortL {l:List A7} (hl:l.length≤100):Tot (J2 l) (fun r=>r.Perm l) :=
 sortU (cmp:=fun x y=>V2 x y) (fun x y=>by unfold V2;rw [A09];rfl) hl
theorem B6c (n:Nat):hd n≤4:=by unfold hd;split<;>omega
theorem B6n {l:List A0} (hl:∀ p∈l,pV p) (h256:l.length≤256):Tot (T1 (uW l)) (fun L=>(∀ y∈L,uok y)∧L.length≤100∧jlen L=aw (clen true l)):=by
 unfold T1
 refine Tot.bindT B4x fun r hr => ?_
 rw [hr]
 refine Tot.jn ?_
 refine Tot.iteF rfl ?_
 have hc:=A5b true l hl
 refine Tot.bindT (A5u hl h256 true) fun b hb => ?_
 refine Tot.jnR (fun L=>(∀ y∈L,uok y)∧L.length≤1∧jlen L=aw (clen true l)) (fun j hj => ?_) (fun L hL => ?_)
 ·refine Tot.ite (fun e => ?_) (fun e => ?_)
  ·have e':0<b.length:=by have:=of_decide_eq_true e;omega
   refine Tot.chk (decide_eq_true (show _≤4294967296 by simp;omega)) ?_
   refine Tot.chk (decide_eq_true (show _≤4294967296 by simp)) ?_
   refine hj _ ⟨fun y hy => ?_,by simp,?_⟩
   ·simp at hy;subst hy
    exact⟨by simp,by simp,by simp;omega⟩
   ·have:clen true l≠0:=by omega
    simp [jlen,aw,this,hb]
    rw [show 3+clen true l=clen true l+1+1+1 by omega]
  ·have e':¬ 0<b.length:=by have:=of_decide_eq_false e;omega
   refine hj _ ⟨fun y hy=>by simp at hy,by simp,?_⟩
   have:clen true l=0:=by omega
   simp [jlen,aw,this]
 ·refine Tot.bindT (sortL (by omega)) fun r hr => ?_
  refine Tot.chk (decide_eq_true hr.length_eq) ?_
  have e:(r.drop 0).take L.length=r:=by rw [← hr.length_eq];simp
  rw [e]
  exact Tot.some ⟨fun y hy=>hL.1 y (hr.mem_iff.1 hy),by rw [hr.length_eq];omega,by rw [A6s hr];exact hL.2.2⟩
theorem B6o {n m:Int} {x:E7} (h:dOk n x m) {l:List A0} (hl:∀ p∈l,pV p) (h256:l.length≤256) (h0:l≠[]):Tot (T1 (uA n x m l)) (fun L=>(∀ y∈L,uok y)∧L.length≤100∧jlen L=aa x (clen true l)):=by
 unfold T1
 refine Tot.bindT (B41 h) fun r hr => ?_
 have hc:=A5b true l hl
 have hlen:decide ((0:Int)<((uA n x m l).fAnnounce.length:Int))=true:=by
  have:0<l.length:=List.length_pos_iff.2 h0
  exact decide_eq_true (by show(0:Int)<(l.length:Int);omega)
 refine Tot.jnR (fun L=>(∀ y∈L,uok y)∧L.length≤5∧jlen L=aa x (clen true l)) (fun j hj => ?_) (fun L hL => ?_)
 ·rw [hlen,Bool.true_and]
  refine Tot.ite (fun e => ?_) (fun e => ?_)
  ·have e':x.fV6=true:=e
   refine Tot.bindT (A6d (show aV (uA n x m l).fAttrs.fNext from h.next)) fun b hb => ?_
   have hb':b.length=16:=by
    have:8*b.length=wid x.fV6:=hb
    rw [e'] at this;simp [wid] at this;omega
   refine Tot.chk (decide_eq_true (show _≤4294967296 by simp;omega)) ?_
   refine Tot.chk (decide_eq_true (show _≤4294967296 by simp;omega)) ?_
   refine Tot.bindT (A6r (l:=(uA n x m l).fAnnounce) hl h256 true (by simp;omega)) fun c hc' => ?_
   have hcl:c.length=21+clen true l:=by rw [hc'];simp [hb',uA]
   refine Tot.chk (decide_eq_true (show _≤4294967296 by simp;omega)) ?_
   refine hj _ ⟨fun y hy => ?_,by simp;omega,?_⟩
   ·rcases List.mem_append.1 hy with hy | hy
    ·exact hr.1 y hy
    ·simp at hy;subst hy
     exact⟨by simp,by simp,by show c.length≤65535;omega⟩
   ·rw [A4y,hr.2.2]
    simp [jlen,aa,e',hcl]
  ·have e':x.fV6=false:=e
   exact hj _ ⟨hr.1,by omega,by rw [hr.2.2];simp [aa,e']⟩
 ·have e0:M4 (uA n x m l).fWithdraw true=some []:=by
   obtain⟨b,e,hb⟩:=A5u (l:=[]) (by simp) (by simp) true
   show M4 [] true=_
   rw [e,List.length_eq_zero_iff.1 (show b.length=0 from hb)]
  refine Tot.bindOf e0 ?_
  refine Tot.jn ?_
  refine Tot.iteF rfl ?_
  refine Tot.bindT (sortL (by omega)) fun r hr => ?_
  refine Tot.chk (decide_eq_true hr.length_eq) ?_
  have e:(r.drop 0).take L.length=r:=by rw [← hr.length_eq];simp
  rw [e]
  exact Tot.some ⟨fun y hy=>hL.1 y (hr.mem_iff.1 hy),by rw [hr.length_eq];omega,by rw [A6s hr];exact hL.2.2⟩
theorem bad0:J1 []=some false:=by
 obtain⟨b,e,hb⟩:=B08 (l:=[]) (by simp) (by simp)
 rw [e]
 cases b with
 | false=>rfl
 | true=>exact absurd (fun p hp=>by cases hp) (hb.1 rfl)
theorem B5x {l:List A0} (hl:∀ p∈l,aR p.fAddr) (hn:l.length≤100000):M1 (uW l)=some (bW l):=by
 refine B1i ?_ B2g
 unfold M1
 have e0:decide ((256:Int)<((uW l).fAnnounce.length:Int))=false:=rfl
 refine Tot.jnR (fun m=>(m=true→¬ VW l)∧(m=false→l.length≤256∧∀ p∈l,pV p)) (fun j hj => ?_) (fun m hm => ?_)
 ·rw [e0,Bool.or_false]
  refine Tot.ite (fun e=>hj _ ⟨fun _ h => ?_,fun e=>by cases e⟩) (fun e => ?_)
  ·have:=of_decide_eq_true e
   have h2:=h.len
   have:(256:Int)<(l.length:Int):=this
   omega
  ·have h256:l.length≤256:=by
    have:=of_decide_eq_false e
    have:¬ (256:Int)<(l.length:Int):=this
    omega
   refine Tot.bindT (B08 hl hn) fun b hb => ?_
   refine Tot.ite (fun e=>hj _ ⟨fun _ h=>hb.1 e h.val,fun e=>by cases e⟩) (fun e => ?_)
   have hv:∀ p∈l,pV p:=Classical.byContradiction fun hc=>by rw [hb.2 hc] at e;cases e
   refine Tot.bindOf bad0 ?_
   refine Tot.iteF rfl ?_
   refine Tot.bindOf (show X1 (uW l)=some true by unfold X1;simp [uW,B4s]) ?_
   exact hj _ ⟨fun e=>by simp at e,fun _=>⟨h256,hv⟩⟩
 ·refine Tot.ite (fun e=>Tot.some ⟨(fun e=>by cases e),fun h=>absurd h (hm.1 e)⟩) (fun e => ?_)
  obtain⟨h256,hv⟩:=hm.2 e
  refine Tot.bindT (B1j (B6n hv h256) hv h256 (by intro p hp;cases hp) (by simp [uW])) fun r hr => ?_
  refine Tot.some ?_
  rw [hr]
  show aw (clen true l)≤2048∧4+clen false l+aw (clen true l)+0≤4077↔_
  exact⟨fun h=>⟨h256,hv,h.1,h.2⟩,fun h=>⟨h.att,h.all⟩⟩
theorem B39 {n m:Int} {x:E7} (h:dOk n x m) {l:List A0} (hl:∀ p∈l,aR p.fAddr) (hn:l.length≤100000) (h0:l≠[]):M1 (uA n x m l)=some (bA x l):=by
 refine B1i ?_ B2h
 unfold M1
 have e0:decide ((256:Int)<((uA n x m l).fWithdraw.length:Int))=false:=rfl
 refine Tot.jnR (fun m=>(m=true→¬ VA x l)∧(m=false→l.length≤256∧(∀ p∈l,pV p)∧∀ p∈l,p.fAddr.fV6=x.fV6)) (fun j hj => ?_) (fun m hm => ?_)
 ·rw [e0,Bool.false_or]
  refine Tot.ite (fun e=>hj _ ⟨fun _ h => ?_,fun e=>by cases e⟩) (fun e => ?_)
  ·have:=of_decide_eq_true e
   have h2:=h.len
   have:(256:Int)<(l.length:Int):=this
   omega
  ·have h256:l.length≤256:=by
    have:=of_decide_eq_false e
    have:¬ (256:Int)<(l.length:Int):=this
    omega
   refine Tot.bindOf bad0 ?_
   refine Tot.iteF rfl ?_
   refine Tot.bindT (B08 hl hn) fun b hb => ?_
   refine Tot.ite (fun e=>hj _ ⟨fun _ h=>hb.1 e h.val,fun e=>by cases e⟩) (fun e => ?_)
   have hv:∀ p∈l,pV p:=Classical.byContradiction fun hc=>by rw [hb.2 hc] at e;cases e
   have hf:Tot (X1 (uA n x m l)) (fun b=>b=true↔∀ p∈l,p.fAddr.fV6=x.fV6):=by
    unfold X1
    have hlen:((l.length:Int)==0)=false:=by
     have:0<l.length:=List.length_pos_iff.2 h0
     rw [Bool.eq_false_iff];intro e;simp at e;exact h0 e
    refine Tot.iteF hlen ?_
    refine Tot.jn ?_
    refine Tot.bindOf (show J7 (uA n x m l).fAttrs=some true from A8r h) ?_
    refine Tot.iteT ?_ ?_
    ·show((true&&((0:Int) != -1)) && !((x.fV6==false)&&((x.fHi==0)&&((x.fLo==0)&&true))))=true
     rw [nz_b h.nz];rfl
    ·refine Tot.bindT (B5w (u:=uA n x m l) hn) fun b hb => ?_
     refine Tot.some ?_
     have hb':b=true↔¬ ∀ p∈l,p.fAddr.fV6=x.fV6:=hb
     cases b with
     | true=>simp only [Bool.not_true,Bool.false_eq_true,false_iff];exact hb'.1 rfl
     | false=>simp only [Bool.not_false,true_iff];exact Classical.byContradiction fun hc=>by have:=hb'.2 hc;cases this
   refine Tot.bindT hf fun b hb2 => ?_
   cases b with
   | true=>exact hj _ ⟨fun e=>by simp at e,fun _=>⟨h256,hv,hb2.1 rfl⟩⟩
   | false=>exact hj _ ⟨(fun _ h=>by have:=hb2.2 h.fam;cases this),fun e=>by simp at e⟩
 ·refine Tot.ite (fun e=>Tot.some ⟨(fun e=>by cases e),fun h=>absurd h (hm.1 e)⟩) (fun e => ?_)
  obtain⟨h256,hv,hfm⟩:=hm.2 e
  refine Tot.bindT (B1j (B6o h hv h256 h0) (by intro p hp;cases hp) (by simp [uA]) hv h256) fun r hr => ?_
  refine Tot.some ?_
  rw [hr]
  show aa x (clen true l)≤2048∧4+0+aa x (clen true l)+clen false l≤4077↔_
  exact⟨fun h=>⟨h256,hv,hfm,h.1,by omega⟩,fun h=>⟨h.att,by have:=h.all;omega⟩⟩
def ck (V:List A0→Bool):List A0→List A0→List (List A0)
 | cur,[]=>[cur]
 | cur,p :: l=>if V (cur++[p])=true then ck V (cur++[p]) l else cur :: ck V [p] l
def chunks (V:List A0→Bool):List A0→List (List A0)
 | []=>[]
 | p :: l=>ck V [p] l
theorem B5y {V:List A0→Bool} {cur l:List A0} (h:∀ p l',l=p :: l'→V (cur++[p])=false):ck V cur l=cur :: chunks V l:=by
 cases l with
 | nil=>rfl
 | cons p l=>simp only [ck,chunks];rw [if_neg (by rw [h p l rfl];simp)]
theorem B70 {V:List A0→Bool} {cur l:List A0} {p:A0} (h:V (cur++[p])=true):ck V cur (p :: l)=ck V (cur++[p]) l:=by
 simp only [ck];rw [if_pos h]
theorem B2i (V:List A0→Bool):∀ (l cur:List A0),(ck V cur l).length≤l.length+1
 | [],cur=>by simp [ck]
 | p :: l,cur=>by
  simp only [ck]
  split
  ·have:=B2i V l (cur++[p]);simp;omega
  ·have:=B2i V l [p];simp;omega
theorem A2h (V:List A0→Bool):∀ l:List A0,(chunks V l).length≤l.length
 | []=>by simp [chunks]
 | p :: l=>by have:=B2i V l [p];simp only [chunks,List.length_cons];omega
theorem A19 {α:Type} {l:List α} {i k:Nat} (h:k<l.length) (hi:i≤k):(l.take (k+1)).drop i=(l.take k).drop i++[l[k]]:=by
 rw [G8 h,List.drop_append_of_le_length (by simp;omega)]
theorem A8s {α:Type} {l:List α} {k:Nat} (h:k<l.length):l.drop k=l[k] :: l.drop (k+1):=List.drop_eq_getElem_cons h
theorem A9q {a:D9} {l:List A0} {ann:Bool} {V:List A0→Bool} {msg:List A0→C9} (hl:∀ p∈l,aR p.fAddr) (hn:l.length≤90000)
  (hm:∀ c:List A0,c≠[]→c.length≤90000→(∀ p∈c,aR p.fAddr)→I2 a c ann=some (msg c)∧M1 (msg c)=some (V c)) :
  Q9 (D5.mk a l) ann=some ((chunks V l).map msg):=by
 refine Tot.eq ?_
 unfold Q9
 have part:∀ i k:Nat,i<k→k≤l.length→((l.take k).drop i)≠[]∧((l.take k).drop i).length≤90000∧∀ p∈(l.take k).drop i,aR p.fAddr:=fun i k hik hk=>by
  have hlen:((l.take k).drop i).length=k-i:=by simp;omega
  refine⟨fun e => ?_,by omega,fun p hp=>hl p (List.mem_of_mem_take (List.mem_of_mem_drop hp))⟩
  rw [e] at hlen;simp at hlen;omega
 refine Tot.bindLoop (fun s:Int×List C9=>∃ i:Nat,s.1=i∧i≤l.length∧s.2.length≤i∧s.2++(chunks V (l.drop i)).map msg=(chunks V l).map msg) (fun s=>((l.length:Int)-s.1).toNat) (fun r=>r=(chunks V l).map msg) ⟨0,rfl,Nat.zero_le _,by simp,by simp⟩ (fun s hs => ?_) (fun r hr=>Tot.some hr)
 obtain⟨s1,s2⟩:=s
 obtain⟨i,e1,h2,h3,h4⟩:=hs
 simp only at e1 h3 h4
 subst e1
 unfold A0y
 refine Tot.ite (fun e => ?_) (fun e => ?_)
 ·have hi:i<l.length:=by have:=of_decide_eq_true e;simp only at this;omega
  refine Tot.bindLoop (fun k:Int=>∃ j:Nat,k=j∧i<j∧j≤l.length∧chunks V (l.drop i)=ck V ((l.take j).drop i) (l.drop j)) (fun k=>((l.length:Int)-k).toNat) (fun k:Int=>∃ j:Nat,k=j∧i<j∧j≤l.length∧chunks V (l.drop i)=((l.take j).drop i) :: chunks V (l.drop j)) ?_ (fun k hk => ?_) (fun k hk => ?_)
  ·refine⟨i+1,F3 hi (by omega),by omega,hi,?_⟩
   rw [A19 hi (Nat.le_refl _),A8s hi]
   simp [chunks]
  ·obtain⟨j,rfl,hj1,hj2,hj3⟩:=hk
   unfold A0x
   refine Tot.jnR (fun m=>(m=true→∃ h:j<l.length,V ((l.take (j+1)).drop i)=true)∧(m=false→∀ h:j<l.length,V ((l.take (j+1)).drop i)=false)) (fun jj hjj => ?_) (fun m hmm => ?_)
   ·refine Tot.ite (fun e => ?_) (fun e => ?_)
    ·have hjl:j<l.length:=by have:=of_decide_eq_true e;simp only at this;omega
     rw [F3 hjl (by omega)]
     refine Tot.chk ?_ ?_
     ·simp only [Bool.and_eq_true,decide_eq_true_eq]
      refine⟨⟨⟨by omega,by omega⟩,by omega⟩,by show((j+1:Nat):Int).toNat≤l.length;omega⟩
     ·obtain⟨p1,p2,p3⟩:=part i (j+1) (by omega) (by omega)
      have hmm:=hm _ p1 p2 p3
      have e1:((j+1:Nat):Int).toNat=j+1:=by omega
      have e2:((i:Nat):Int).toNat=i:=by omega
      show Tot ((I2 a ((l.take ((j+1:Nat):Int).toNat).drop ((i:Nat):Int).toNat) ann).bind _) _
      rw [e1,e2]
      refine Tot.bindOf hmm.1 ?_
      refine Tot.bindOf hmm.2 ?_
      exact hjj _ ⟨fun e=>⟨hjl,e⟩,fun e _=>e⟩
    ·have hjl:¬ j<l.length:=by have:=of_decide_eq_false e;simp only at this;omega
     exact hjj _ ⟨(fun e=>by cases e),fun _ h=>absurd h hjl⟩
   ·refine Tot.ite (fun e => ?_) (fun e => ?_)
    ·obtain⟨hjl,hv⟩:=hmm.1 e
     have hw:=F3 hjl (n:=l.length) (by omega)
     refine Tot.next ⟨j+1,hw,by omega,by omega,?_⟩ (by rw [hw];omega)
     rw [hj3,A8s hjl,B70,A19 hjl (by omega)]
     rw [← A19 hjl (by omega)];exact hv
    ·refine Tot.out ⟨j,rfl,hj1,hj2,?_⟩
     rw [hj3]
     refine B5y fun p l' hp => ?_
     have hjl:j<l.length:=by
      refine Classical.byContradiction fun hc => ?_
      rw [List.drop_eq_nil_of_le (by omega)] at hp;cases hp
     have:=hmm.2 e hjl
     rw [A8s hjl] at hp
     cases hp
     rw [← A19 hjl (by omega)];exact this
  ·obtain⟨j,rfl,hj1,hj2,hj3⟩:=hk
   refine Tot.chk ?_ ?_
   ·simp only [Bool.and_eq_true,decide_eq_true_eq]
    refine⟨⟨⟨by omega,by omega⟩,by omega⟩,by show((j:Nat):Int).toNat≤l.length;omega⟩
   ·obtain⟨p1,p2,p3⟩:=part i j hj1 hj2
    have hmm:=hm _ p1 p2 p3
    have e1:((j:Nat):Int).toNat=j:=by omega
    have e2:((i:Nat):Int).toNat=i:=by omega
    show Tot ((I2 a ((l.take ((j:Nat):Int).toNat).drop ((i:Nat):Int).toNat) ann).bind _) _
    rw [e1,e2]
    refine Tot.bindOf hmm.1 ?_
    refine Tot.chk (decide_eq_true (show _≤4294967296 by simp;omega)) ?_
    refine Tot.next ⟨j,rfl,hj2,by simp;omega,?_⟩ (by show((l.length:Int)-(j:Int)).toNat<((l.length:Int)-(i:Int)).toNat;omega)
    rw [← h4,hj3]
    simp
 ·have hi:¬ i<l.length:=by have:=of_decide_eq_false e;simp only at this;omega
  refine Tot.out ?_
  rw [List.drop_eq_nil_of_le (by omega)] at h4
  simpa [chunks] using h4
theorem B2j (g:D5) (ann:Bool):A01 g ann=Q9 g ann:=rfl
theorem B71 {a:D9} {c:List A0} (h:c.length≤90000):I2 a c false=some (uW c):=by
 unfold I2 Y4
 have:decide (c.length≤LIM)=true:=decide_eq_true (show c.length≤4294967296 by omega)
 simp [B1c,chk,this,uW]
theorem B6d {n m:Int} {x:E7} {c:List A0} (h:c.length≤90000):I2 (mkD n x m) c true=some (uA n x m c):=by
 unfold I2 Y4
 have:decide (c.length≤LIM)=true:=decide_eq_true (show c.length≤4294967296 by omega)
 simp [B38,chk,this,uA]
theorem filledW {a:D9} {l:List A0} (hl:∀ p∈l,aR p.fAddr) (hn:l.length≤90000):A01 (D5.mk a l) false=some ((chunks bW l).map uW):=by
 rw [B2j]
 exact A9q hl hn fun c h0 h1 h2=>⟨B71 h1,B5x h2 (by omega)⟩
theorem filledA {n m:Int} {x:E7} (h:dOk n x m) {l:List A0} (hl:∀ p∈l,aR p.fAddr) (hn:l.length≤90000):Q9 (D5.mk (mkD n x m) l) true=some ((chunks (bA x) l).map (uA n x m)) :=
 A9q hl hn fun c h0 h1 h2=>⟨B6d h1,B39 h h2 (by omega) h0⟩
end Go.Proofs.YtplbaenjbihekaaGreatDoor
