/- Which messages are valid, lists cut into messages, in plain Lean. -/
import Derived.Test.YtkhjkjojjdkidaaGreatDoorPureZA
namespace Go.Proofs.YtkhjkjojjdkidaaGreatDoor
open Go Go.Vc
def aw (c:Nat):Nat:=if c=0 then 0 else hd (3+c)+(3+c)
def aa (x:D0) (c:Nat):Nat:=alen x+(if x.fV6=true then hd (21+c)+(21+c) else 0)
structure VW (l:List A2):Prop where
 len:l.length≤256
 val:∀ p∈l,pV p
 att:aw (clen true l)≤2048
 all:4+clen false l+aw (clen true l)≤4077
structure VA (x:D0) (l:List A2):Prop where
 len:l.length≤256
 val:∀ p∈l,pV p
 fam:∀ p∈l,p.fAddr.fV6=x.fV6
 att:aa x (clen true l)≤2048
 all:4+aa x (clen true l)+clen false l≤4077
open Classical in
noncomputable def bW (l:List A2):Bool:=decide (VW l)
open Classical in
noncomputable def bA (x:D0) (l:List A2):Bool:=decide (VA x l)
theorem B2c {l:List A2}:bW l=true↔VW l:=by unfold bW;simp
theorem B2d {x:D0} {l:List A2}:bA x l=true↔VA x l:=by unfold bA;simp
theorem A6i {o:Option Bool} {p:Prop} {b:Bool} (h:Tot o (fun r=>r=true↔p)) (hb:b=true↔p):o=some b:=by
 obtain⟨r,e,hr⟩:=h
 rw [e]
 congr 1
 rw [Bool.eq_iff_iff,hr,hb]
def uW (l:List A2):A6:=A6.mk l noD []
def uA (n:Int) (x:D0) (m:Int) (l:List A2):A6:=A6.mk [] (mkD n x m) l
theorem B0f {l:List A2} (hl:∀ p∈l,aR p.fAddr) (hn:l.length≤100000):Tot (H3 l) (fun b=>b=true↔¬ ∀ p∈l,pV p):=by
 unfold H3 X8
 refine Tot.bind (Tot.bindRng l.length (fun k (_:Unit)=>(k:Int)) (fun k _=>∀ p∈l.take k,pV p) (fun x=>(x = .inr ()∧∀ p∈l,pV p)∨∃ k:Nat,x = .inl k∧¬ ∀ p∈l,pV p) () rfl (by simp) (fun k b hk hb => ?_) (fun b hb => ?_) (fun x hx => ?_))
 ·unfold M6
  refine Tot.iteT (by simpa using hk) ?_
  refine Tot.bindIdx k rfl hk ?_
  refine Tot.bindOf (x:=!validF l[k]) (by unfold A0m;rw [A9t (hl _ (List.getElem_mem hk))];rfl) ?_
  refine Tot.ite (fun e => ?_) (fun e => ?_)
  ·refine Tot.stop (.inr ⟨k,rfl,fun h => ?_⟩)
   have:=h _ (List.getElem_mem hk)
   rw [← Q2] at this
   rw [this] at e;cases e
  ·refine Tot.step () (E8 hk (by omega)) ?_
   intro p hp
   rw [J4 hk] at hp
   rcases List.mem_append.1 hp with hp | hp
   ·exact hb p hp
   ·rw [List.mem_singleton.1 hp]
    exact Q2.1 (by simpa using e)
 ·unfold M6
  refine Tot.iteF (by simp) ?_
  rw [List.take_length] at hb
  exact Tot.last (.inl ⟨rfl,hb⟩)
 ·rcases hx with ⟨rfl,hx⟩ | ⟨k,rfl,hx⟩
  ·exact Tot.some (Tot.some (by simp;exact hx))
  ·exact Tot.some (Tot.some (by simp only [Int.natCast_nonneg,decide_true,true_iff];exact hx))
theorem B62 {u:A6} {l:List A2} (hn:l.length≤100000):Tot (J9 l u) (fun b=>b=true↔¬ ∀ p∈l,p.fAddr.fV6=u.fAttrs.fNext.fV6):=by
 unfold J9 S5
 refine Tot.bind (Tot.bindRng l.length (fun k (_:Unit)=>(k:Int)) (fun k _=>∀ p∈l.take k,p.fAddr.fV6=u.fAttrs.fNext.fV6) (fun x=>(x = .inr ()∧∀ p∈l,p.fAddr.fV6=u.fAttrs.fNext.fV6)∨∃ k:Nat,x = .inl k∧¬ ∀ p∈l,p.fAddr.fV6=u.fAttrs.fNext.fV6) () rfl (by simp) (fun k b hk hb => ?_) (fun b hb => ?_) (fun x hx => ?_))
 ·unfold J8
  refine Tot.iteT (by simpa using hk) ?_
  refine Tot.bindIdx k rfl hk ?_
  refine Tot.bindOf (x:=l[k].fAddr.fV6 != u.fAttrs.fNext.fV6) rfl ?_
  refine Tot.ite (fun e => ?_) (fun e => ?_)
  ·refine Tot.stop (.inr ⟨k,rfl,fun h => ?_⟩)
   have:=h _ (List.getElem_mem hk)
   rw [this] at e;simp at e
  ·refine Tot.step () (E8 hk (by omega)) ?_
   intro p hp
   rw [J4 hk] at hp
   rcases List.mem_append.1 hp with hp | hp
   ·exact hb p hp
   ·rw [List.mem_singleton.1 hp]
    simpa using e
 ·unfold J8
  refine Tot.iteF (by simp) ?_
  rw [List.take_length] at hb
  exact Tot.last (.inl ⟨rfl,hb⟩)
 ·rcases hx with ⟨rfl,hx⟩ | ⟨k,rfl,hx⟩
  ·exact Tot.some (Tot.some (by simp;exact hx))
  ·exact Tot.some (Tot.some (by simp only [Int.natCast_nonneg,decide_true,true_iff];exact hx))
theorem B1j {u:A6} {J:Nat} (hl:Tot (S1 u) (fun L=>(∀ y∈L,uok y)∧L.length≤100∧jlen L=J)) (hW:∀ p∈u.fWithdraw,pV p) (hW2:u.fWithdraw.length≤256) (hA:∀ p∈u.fAnnounce,pV p) (hA2:u.fAnnounce.length≤256) :
  Tot (A1r u) (fun r=>r.2=true↔J≤2048∧4+clen false u.fWithdraw+J+clen false u.fAnnounce≤4077):=by
 unfold A1r
 refine Tot.bindT hl fun L hL => ?_
 refine Tot.bindT (B4w hL.1 hL.2.1) fun r2 h2 => ?_
 refine Tot.bindT (A60 hW hW2 false) fun r3 h3 => ?_
 have c3:=A1a false u.fWithdraw hW
 have c4:=A1a false u.fAnnounce hA
 refine Tot.bindT (show Tot (A2f _) (fun b=>b.length=2) from Tot.chk (decide_eq_true (show _≤4294967296 by simp)) (Tot.some rfl)) fun r4 h4 => ?_
 refine Tot.chk (decide_eq_true (show _≤4294967296 by rw [List.length_append];omega)) ?_
 refine Tot.bindT (show Tot (A2g (r4++r3) _) (fun b=>b.length=4+clen false u.fWithdraw) from Tot.chk (decide_eq_true (show _≤4294967296 by simp;omega)) (Tot.some (by simp;omega))) fun r6 h6 => ?_
 refine Tot.chk (decide_eq_true (show _≤4294967296 by rw [List.length_append];omega)) ?_
 refine Tot.bindT (A6v hA hA2 false (b0:=r6++r2.1) (by rw [List.length_append];omega)) fun r8 h8 => ?_
 rw [List.length_append] at h8
 refine Tot.some ?_
 simp only [Bool.and_eq_true,beq_iff_eq,decide_eq_true_eq]
 rw [h2.1,hL.2.2]
 constructor
 ·rintro⟨g1,g2⟩
  have:=h2.2.1 (by rw [hL.2.2];exact g1)
  rw [hL.2.2] at this
  exact⟨g1,by omega⟩
 ·rintro⟨g1,g2⟩
  have:=h2.2.1 (by rw [hL.2.2];exact g1)
  rw [hL.2.2] at this
  exact⟨g1,by omega⟩
theorem sortL {l:List A1} (hl:l.length≤100):Tot (H4 l) (fun r=>r.Perm l) :=
 sortU (cmp:=fun x y=>U7 x y) (fun x y=>by unfold U7;rw [A08];rfl) hl
theorem B6s {l:List A2} (hl:∀ p∈l,pV p) (h256:l.length≤256):Tot (S1 (uW l)) (fun L=>(∀ y∈L,uok y)∧L.length≤100∧jlen L=aw (clen true l)):=by
 unfold S1
 refine Tot.bindT B4z fun r hr => ?_
 rw [hr]
 refine Tot.jn ?_
 refine Tot.iteF rfl ?_
 have hc:=A1a true l hl
 refine Tot.bindT (A60 hl h256 true) fun b hb => ?_
 refine Tot.jnR (fun L=>(∀ y∈L,uok y)∧L.length≤1∧jlen L=aw (clen true l)) (fun j hj => ?_) (fun L hL => ?_)
 ·refine Tot.ite (fun e => ?_) (fun e => ?_)
  ·have e':0<b.length:=by have:=of_decide_eq_true e;omega
   refine Tot.chk (decide_eq_true (show _≤4294967296 by simp;omega)) ?_
   refine Tot.chk (decide_eq_true (show _≤4294967296 by simp)) ?_
   refine hj _ ⟨fun y hy => ?_,by simp,?_⟩
   ·simp at hy;subst hy
    exact⟨by simp,by simp,by simp;omega⟩
   ·have:clen true l≠0:=by omega
    simp [jlen,aw,this,hb]
    rw [show 3+clen true l=clen true l+1+1+1 by omega]
  ·have e':¬ 0<b.length:=by have:=of_decide_eq_false e;omega
   refine hj _ ⟨fun y hy=>by simp at hy,by simp,?_⟩
   have:clen true l=0:=by omega
   simp [jlen,aw,this]
 ·refine Tot.bindT (sortL (by omega)) fun r hr => ?_
  refine Tot.chk (decide_eq_true hr.length_eq) ?_
  have e:(r.drop 0).take L.length=r:=by rw [← hr.length_eq];simp
  rw [e]
  exact Tot.some ⟨fun y hy=>hL.1 y (hr.mem_iff.1 hy),by rw [hr.length_eq];omega,by rw [A40 hr];exact hL.2.2⟩
theorem B6t {n m:Int} {x:D0} (h:dOk n x m) {l:List A2} (hl:∀ p∈l,pV p) (h256:l.length≤256) (h0:l≠[]):Tot (S1 (uA n x m l)) (fun L=>(∀ y∈L,uok y)∧L.length≤100∧jlen L=aa x (clen true l)):=by
 unfold S1
 refine Tot.bindT (B3y h) fun r hr => ?_
 have hc:=A1a true l hl
 have hlen:decide ((0:Int)<((uA n x m l).fAnnounce.length:Int))=true:=by
  have:0<l.length:=List.length_pos_iff.2 h0
  exact decide_eq_true (by show(0:Int)<(l.length:Int);omega)
 refine Tot.jnR (fun L=>(∀ y∈L,uok y)∧L.length≤5∧jlen L=aa x (clen true l)) (fun j hj => ?_) (fun L hL => ?_)
 ·rw [hlen,Bool.true_and]
  refine Tot.ite (fun e => ?_) (fun e => ?_)
  ·have e':x.fV6=true:=e
   refine Tot.bindT (A6h (show aV (uA n x m l).fAttrs.fNext from h.next)) fun b hb => ?_
   have hb':b.length=16:=by
    have:8*b.length=wid x.fV6:=hb
    rw [e'] at this;simp [wid] at this;omega
   refine Tot.chk (decide_eq_true (show _≤4294967296 by simp;omega)) ?_
   refine Tot.chk (decide_eq_true (show _≤4294967296 by simp;omega)) ?_
   refine Tot.bindT (A6v (l:=(uA n x m l).fAnnounce) hl h256 true (by simp;omega)) fun c hc' => ?_
   have hcl:c.length=21+clen true l:=by rw [hc'];simp [hb',uA]
   refine Tot.chk (decide_eq_true (show _≤4294967296 by simp;omega)) ?_
   refine hj _ ⟨fun y hy => ?_,by simp;omega,?_⟩
   ·rcases List.mem_append.1 hy with hy | hy
    ·exact hr.1 y hy
    ·simp at hy;subst hy
     exact⟨by simp,by simp,by show c.length≤65535;omega⟩
   ·rw [A20,hr.2.2]
    simp [jlen,aa,e',hcl]
  ·have e':x.fV6=false:=e
   exact hj _ ⟨hr.1,by omega,by rw [hr.2.2];simp [aa,e']⟩
 ·have e0:L7 (uA n x m l).fWithdraw true=some []:=by
   obtain⟨b,e,hb⟩:=A60 (l:=[]) (by simp) (by simp) true
   show L7 [] true=_
   rw [e,List.length_eq_zero_iff.1 (show b.length=0 from hb)]
  refine Tot.bindOf e0 ?_
  refine Tot.jn ?_
  refine Tot.iteF rfl ?_
  refine Tot.bindT (sortL (by omega)) fun r hr => ?_
  refine Tot.chk (decide_eq_true hr.length_eq) ?_
  have e:(r.drop 0).take L.length=r:=by rw [← hr.length_eq];simp
  rw [e]
  exact Tot.some ⟨fun y hy=>hL.1 y (hr.mem_iff.1 hy),by rw [hr.length_eq];omega,by rw [A40 hr];exact hL.2.2⟩
theorem bad0:H3 []=some false:=by
 obtain⟨b,e,hb⟩:=B0f (l:=[]) (by simp) (by simp)
 rw [e]
 cases b with
 | false=>rfl
 | true=>exact absurd (fun p hp=>by cases hp) (hb.1 rfl)
theorem B63 {l:List A2} (hl:∀ p∈l,aR p.fAddr) (hn:l.length≤100000):L2 (uW l)=some (bW l):=by
 refine A6i ?_ B2c
 unfold L2
 have e0:decide ((256:Int)<((uW l).fAnnounce.length:Int))=false:=rfl
 refine Tot.jnR (fun m=>(m=true→¬ VW l)∧(m=false→l.length≤256∧∀ p∈l,pV p)) (fun j hj => ?_) (fun m hm => ?_)
 ·rw [e0,Bool.or_false]
  refine Tot.ite (fun e=>hj _ ⟨fun _ h => ?_,fun e=>by cases e⟩) (fun e => ?_)
  ·have:=of_decide_eq_true e
   have h2:=h.len
   have:(256:Int)<(l.length:Int):=this
   omega
  ·have h256:l.length≤256:=by
    have:=of_decide_eq_false e
    have:¬ (256:Int)<(l.length:Int):=this
    omega
   refine Tot.bindT (B0f hl hn) fun b hb => ?_
   refine Tot.ite (fun e=>hj _ ⟨fun _ h=>hb.1 e h.val,fun e=>by cases e⟩) (fun e => ?_)
   have hv:∀ p∈l,pV p:=Classical.byContradiction fun hc=>by rw [hb.2 hc] at e;cases e
   refine Tot.bindOf bad0 ?_
   refine Tot.iteF rfl ?_
   refine Tot.bindOf (show V9 (uW l)=some true by unfold V9;simp [uW,B4u]) ?_
   exact hj _ ⟨fun e=>by simp at e,fun _=>⟨h256,hv⟩⟩
 ·refine Tot.ite (fun e=>Tot.some ⟨(fun e=>by cases e),fun h=>absurd h (hm.1 e)⟩) (fun e => ?_)
  obtain⟨h256,hv⟩:=hm.2 e
  refine Tot.bindT (B1j (B6s hv h256) hv h256 (by intro p hp;cases hp) (by simp [uW])) fun r hr => ?_
  refine Tot.some ?_
  rw [hr]
  show aw (clen true l)≤2048∧4+clen false l+aw (clen true l)+0≤4077↔_
  exact⟨fun h=>⟨h256,hv,h.1,h.2⟩,fun h=>⟨h.att,h.all⟩⟩
theorem B33 {n m:Int} {x:D0} (h:dOk n x m) {l:List A2} (hl:∀ p∈l,aR p.fAddr) (hn:l.length≤100000) (h0:l≠[]):L2 (uA n x m l)=some (bA x l):=by
 refine A6i ?_ B2d
 unfold L2
 have e0:decide ((256:Int)<((uA n x m l).fWithdraw.length:Int))=false:=rfl
 refine Tot.jnR (fun m=>(m=true→¬ VA x l)∧(m=false→l.length≤256∧(∀ p∈l,pV p)∧∀ p∈l,p.fAddr.fV6=x.fV6)) (fun j hj => ?_) (fun m hm => ?_)
 ·rw [e0,Bool.false_or]
  refine Tot.ite (fun e=>hj _ ⟨fun _ h => ?_,fun e=>by cases e⟩) (fun e => ?_)
  ·have:=of_decide_eq_true e
   have h2:=h.len
   have:(256:Int)<(l.length:Int):=this
   omega
  ·have h256:l.length≤256:=by
    have:=of_decide_eq_false e
    have:¬ (256:Int)<(l.length:Int):=this
    omega
   refine Tot.bindOf bad0 ?_
   refine Tot.iteF rfl ?_
   refine Tot.bindT (B0f hl hn) fun b hb => ?_
   refine Tot.ite (fun e=>hj _ ⟨fun _ h=>hb.1 e h.val,fun e=>by cases e⟩) (fun e => ?_)
   have hv:∀ p∈l,pV p:=Classical.byContradiction fun hc=>by rw [hb.2 hc] at e;cases e
   have hf:Tot (V9 (uA n x m l)) (fun b=>b=true↔∀ p∈l,p.fAddr.fV6=x.fV6):=by
    unfold V9
    have hlen:((l.length:Int)==0)=false:=by
     have:0<l.length:=List.length_pos_iff.2 h0
     rw [Bool.eq_false_iff];intro e;simp at e;exact h0 e
    refine Tot.iteF hlen ?_
    refine Tot.jn ?_
    refine Tot.bindOf (show I2 (uA n x m l).fAttrs=some true from A94 h) ?_
    refine Tot.iteT ?_ ?_
    ·show((true&&((0:Int) != -1)) && !((x.fV6==false)&&((x.fHi==0)&&((x.fLo==0)&&true))))=true
     rw [nz_b h.nz];rfl
    ·refine Tot.bindT (B62 (u:=uA n x m l) hn) fun b hb => ?_
     refine Tot.some ?_
     have hb':b=true↔¬ ∀ p∈l,p.fAddr.fV6=x.fV6:=hb
     cases b with
     | true=>simp only [Bool.not_true,Bool.false_eq_true,false_iff];exact hb'.1 rfl
     | false=>simp only [Bool.not_false,true_iff];exact Classical.byContradiction fun hc=>by have:=hb'.2 hc;cases this
   refine Tot.bindT hf fun b hb2 => ?_
   cases b with
   | true=>exact hj _ ⟨fun e=>by simp at e,fun _=>⟨h256,hv,hb2.1 rfl⟩⟩
   | false=>exact hj _ ⟨(fun _ h=>by have:=hb2.2 h.fam;cases this),fun e=>by simp at e⟩
 ·refine Tot.ite (fun e=>Tot.some ⟨(fun e=>by cases e),fun h=>absurd h (hm.1 e)⟩) (fun e => ?_)
  obtain⟨h256,hv,hfm⟩:=hm.2 e
  refine Tot.bindT (B1j (B6t h hv h256 h0) (by intro p hp;cases hp) (by simp [uA]) hv h256) fun r hr => ?_
  refine Tot.some ?_
  rw [hr]
  show aa x (clen true l)≤2048∧4+0+aa x (clen true l)+clen false l≤4077↔_
  exact⟨fun h=>⟨h256,hv,hfm,h.1,by omega⟩,fun h=>⟨h.att,by have:=h.all;omega⟩⟩
theorem word4 (v:Int):Tot (I6 v 4) (fun b=>b.length=4):=by
 unfold I6
 rw [show w64 ((4:Int)-1)=3 from by decide,A8]
 simp only [L8]
 simp [chk,LIM]
 rw [show w64 (2:Int)=2 from by decide,A8]
 simp [L8,chk,LIM]
 rw [show w64 (1:Int)=1 from by decide,A8]
 simp [L8,chk,LIM]
 rw [show w64 (0:Int)=0 from by decide,A8]
 simp [L8,chk,LIM]
 rw [show w64 (-1:Int) = -1 from by decide,A8]
 simp [L8]
 exact⟨_,rfl,rfl⟩
theorem rpath1 (n:Int) {x:D0} {m:Int}:Tot (loop (O9 (mkD n x m)) ((0:Int),([]:List Int))) (fun b=>b.length=6):=by
 obtain⟨b,e,hb⟩:=word4 n
 rw [A8]
 simp [O9,mkD,idx,F3,chk,LIM,jn]
 rw [A8]
 simp [U4,idx,F3,chk,LIM,e,hb]
 rw [A8]
 simp [U4]
 rw [A8]
 simp [O9]
 exact⟨_,rfl,by simp [hb]⟩
theorem B2e (k:Int):Tot (Y5 k) (fun f=>0≤f∧f≤255):=by
 unfold Y5
 refine Tot.jnR (fun _=>True) (fun j hj => ?_) (fun m _ => ?_)
 ·refine Tot.ite (fun _=>hj _ trivial) fun _=>Tot.ite (fun _=>hj _ trivial) fun _=>Tot.ite (fun _=>hj _ trivial) fun _=>hj _ trivial
 ·refine Tot.ite (fun _=>Tot.some (by decide)) fun _=>Tot.ite (fun _=>Tot.some (by decide)) fun _ => ?_
  refine Tot.jnR (fun _=>True) (fun j hj => ?_) (fun m _ => ?_)
  ·refine Tot.ite (fun _=>hj _ trivial) fun _=>Tot.ite (fun _=>hj _ trivial) fun _=>hj _ trivial
  ·refine Tot.ite (fun _=>Tot.some (by decide)) fun _=>Tot.some (by decide)
def sumTo (f:Nat→Nat):Nat→Nat
 | 0=>0
 | n+1=>sumTo f n+f n
theorem A9u {f:Nat→Nat} {n:Nat} (h:∀ i,n≤i→f i=0):∀ k,sumTo f (n+k)=sumTo f n
 | 0=>rfl
 | k+1=>by
  show sumTo f (n+k)+f (n+k)=_
  rw [A9u h k,h _ (by omega)]
  omega
def gsz (M:List (Int×List Int)) (i:Nat):Nat:=match mget keq3 M (i:Int) with
 | some b=>hd b.length+b.length
 | none=>0
theorem A9v {a:C8} (ha:a.fOther=[]) {M:List (Int×List Int)} (hM:∀ (i:Nat) b,mget keq3 M (i:Int)=some b→b.length≤6∧i<5) :
  Tot (loop (M5 a M) ((0:Int),([]:List A1))) (fun r=>(∀ y∈r,uok y)∧r.length≤5∧jlen r=sumTo (gsz M) 5):=by
 have h0:∀ i,5≤i→gsz M i=0:=fun i hi=>by
  unfold gsz
  cases h:mget keq3 M (i:Int) with
  | none=>rfl
  | some b=>have:=(hM i b h).2;omega
 refine Tot.rng 256 (fun k (b:List A1)=>((k:Int),b)) (fun k r=>(∀ y∈r,uok y)∧r.length≤min k 5∧jlen r=sumTo (gsz M) k) _ [] rfl ⟨by simp,by simp,rfl⟩ (fun k r hk hr => ?_) (fun r hr => ?_)
 ·unfold M5
  refine Tot.iteT (by simp;omega) ?_
  refine Tot.jnR (fun m=>(∀ y∈m,uok y)∧m.length≤min (k+1) 5∧jlen m=sumTo (gsz M) (k+1)) (fun j hj => ?_) (fun m hm => ?_)
  ·cases hg:mget keq3 M (k:Int) with
   | none =>
    refine Tot.iteF (by simp [hg]) ?_
    refine hj _ ⟨hr.1,by have:=hr.2.1;show r.length≤_;omega,?_⟩
    show jlen r=sumTo (gsz M) k+gsz M k
    rw [hr.2.2];unfold gsz;rw [hg];rfl
   | some b =>
    obtain⟨h1,h2⟩:=hM k b hg
    refine Tot.iteT (by simp [hg]) ?_
    refine Tot.bindT (B2e _) fun f hf => ?_
    simp only [hg,Option.getD_some]
    refine Tot.chk (decide_eq_true (show _≤4294967296 by omega)) ?_
    refine Tot.chk (decide_eq_true (show _≤4294967296 by simp;have:=hr.2.1;omega)) ?_
    refine hj _ ⟨fun y hy => ?_,?_,?_⟩
    ·rcases List.mem_append.1 hy with hy | hy
     ·exact hr.1 y hy
     ·simp at hy;subst hy
      exact⟨hf,by show(0:Int)≤k∧(k:Int)≤255;omega,by show b.length≤_;omega⟩
    ·have:=hr.2.1;simp;omega
    ·show jlen (r++_)=sumTo (gsz M) k+gsz M k
     rw [A20,hr.2.2];unfold gsz;simp only [hg];simp [jlen]
  ·refine Tot.bindOf (x:=m) (by rw [A8];simp [A01,ha]) ?_
   exact Tot.step m (by show(w64 ((k:Int)+1),m)=_;rw [E8 hk (by omega)]) hm
 ·unfold M5
  refine Tot.iteF (by simp) ?_
  exact Tot.last ⟨hr.1,by have:=hr.2.1;show r.length≤5;omega,by rw [hr.2.2,show 256=5+251 from rfl,A9u h0]⟩
theorem A3s (k j:Int) (b:List Int) (M:List (Int×List Int)):mget keq3 ((j,b) :: M) k=if k=j then some b else mget keq3 M k:=by
 have:=A3u (eq:=keq3) (fun _ _=>rfl) (k:=k) ((j,b) :: M)
 rw [this,A3u (eq:=keq3) (fun _ _=>rfl)]
 rw [show kix k ((j,b) :: M)=if k=j then some 0 else (kix k M).map (· + 1) from rfl]
 by_cases h:k=j
 ·simp [h]
 ·simp only [if_neg h]
  cases kix k M<;>simp
theorem A4w (k:Int):mget keq3 ([]:List (Int×List Int)) k=none:=rfl
theorem B2f {n m:Int} {x:D0} (h:dOk n x m):Tot (A19 (mkD n x m)) (fun r=>r.2=0∧(∀ y∈r.1,uok y)∧r.1.length≤5∧jlen r.1=alen x):=by
 unfold A19
 refine Tot.bindOf (A7c h) ?_
 refine Tot.iteF rfl ?_
 refine Tot.jn ?_
 refine Tot.iteT rfl ?_
 refine Tot.jn ?_
 refine Tot.iteT rfl ?_
 refine Tot.bindT (rpath1 n) fun b2 h2 => ?_
 have hm:decide ((0:Int)≤(mkD n x m).fMED)=true:=decide_eq_true h.med.1
 have hz:((!((x.fV6==false)&&((x.fHi==0)&&((x.fLo==0)&&true))))&&(!x.fV6)) = !x.fV6:=by rw [nz_b h.nz];rfl
 have fin:∀ (b1 b4:List Int) (C:List (Int×List Int)),b1.length=1→b4.length=4→((x.fV6=true∧C=[])∨(x.fV6=false∧∃ b3:List Int,b3.length=4∧C=[(3,b3)])) →
   Tot (loop (M5 (mkD n x m) ([(1,b1),(2,b2)]++C++[(4,b4)])) ((0:Int),([]:List A1))) (fun r=>(∀ y∈r,uok y)∧r.length≤5∧jlen r=alen x):=by
  intro b1 b4 C h1 h4 hC
  rcases hC with ⟨hv,rfl⟩ | ⟨hv,b3,h3,rfl⟩
  ·refine(A9v rfl (M:=[(1,b1),(2,b2)]++[]++[(4,b4)]) (fun i b hb => ?_)).mono fun r hr=>⟨hr.1,hr.2.1,?_⟩
   ·simp only [List.append_nil,List.cons_append,List.nil_append,A3s,A4w] at hb
    repeat' split at hb
    all_goals (first | (cases hb;constructor<;>omega) | cases hb)
   ·rw [hr.2.2]
    simp [sumTo,gsz,A3s,A4w,hd,h1,h2,h4,alen,hv]
  ·refine(A9v rfl (M:=[(1,b1),(2,b2)]++[(3,b3)]++[(4,b4)]) (fun i b hb => ?_)).mono fun r hr=>⟨hr.1,hr.2.1,?_⟩
   ·simp only [List.append_nil,List.cons_append,List.nil_append,A3s,A4w] at hb
    repeat' split at hb
    all_goals (first | (cases hb;constructor<;>omega) | cases hb)
   ·rw [hr.2.2]
    simp [sumTo,gsz,A3s,A4w,hd,h1,h2,h3,h4,alen,hv]
 have loops:∀ M,loop (U2 (mkD n x m)) ((0:Int),M)=some M∧loop (U3 (mkD n x m)) ((0:Int),M)=some M:=fun M=>by
  constructor
  ·rw [A8];simp [U2,mkD]
  ·rw [A8];simp [U3,mkD]
 refine Tot.jn ?_
 show Tot (if ((!((x.fV6==false)&&((x.fHi==0)&&((x.fLo==0)&&true))))&&(!x.fV6))=true then _ else _) _
 rw [hz]
 refine Tot.ite (fun e => ?_) (fun e => ?_)
 ·have hv:x.fV6=false:=by simpa using e
  refine Tot.bindT (A6u (show aV (mkD n x m).fNext from h.next)) fun b3 h3 => ?_
  have h3':b3.length=4:=by
   have:8*b3.length=wid x.fV6:=h3
   rw [hv] at this;simp [wid] at this;omega
  refine Tot.jn ?_
  refine Tot.iteT hm ?_
  refine Tot.bindT (word4 _) fun b4 h4 => ?_
  refine Tot.jn ?_
  refine Tot.iteF rfl ?_
  refine Tot.bindOf (loops _).1 ?_
  refine Tot.bindOf (loops _).2 ?_
  refine Tot.jn ?_
  refine Tot.iteF rfl ?_
  exact Tot.bindT (fin [IntKind.u8.wrap (mkD n x m).fOrigin] b4 [(3,b3)] rfl h4 (.inr ⟨hv,b3,h3',rfl⟩)) fun r hr=>Tot.some ⟨rfl,hr⟩
 ·have hv:x.fV6=true:=by simpa using e
  refine Tot.jn ?_
  refine Tot.iteT hm ?_
  refine Tot.bindT (word4 _) fun b4 h4 => ?_
  refine Tot.jn ?_
  refine Tot.iteF rfl ?_
  refine Tot.bindOf (loops _).1 ?_
  refine Tot.bindOf (loops _).2 ?_
  refine Tot.jn ?_
  refine Tot.iteF rfl ?_
  exact Tot.bindT (fin [IntKind.u8.wrap (mkD n x m).fOrigin] b4 [] rfl h4 (.inl ⟨hv,rfl⟩)) fun r hr=>Tot.some ⟨rfl,hr⟩
theorem B1k {l:List A1} (hl:l.length≤100) (y:A1):Tot (A1i l y) (fun r=>r.Perm (l++[y])):=by
 unfold A1i
 refine Tot.bindLoop (fun s:Int=>0≤s∧s≤l.length) (fun s=>((l.length:Int)-s).toNat) (fun i:Int=>0≤i∧i≤(l.length:Int)) ⟨by omega,by omega⟩ (fun s hs => ?_) (fun i hi => ?_)
 ·unfold A1p
  refine Tot.jnR (fun m=>m=true→s<l.length) (fun j hj => ?_) (fun m hm => ?_)
  ·refine Tot.ite (fun e => ?_) (fun e=>hj _ (fun e=>by cases e))
   have e':s<l.length:=of_decide_eq_true e
   exact Tot.bindIdx s.toNat (by omega) (by omega) (hj _ fun _=>e')
  ·refine Tot.ite (fun e => ?_) (fun e=>Tot.out hs)
   have:=hm e
   have e1:w64 (s+1)=s+1:=F3 (by omega) (by omega)
   refine Tot.next ⟨by rw [e1];omega,by rw [e1];omega⟩ (by rw [e1];omega)
 ·refine Tot.chk (by rw [Bool.and_eq_true,Bool.and_eq_true];exact⟨⟨decide_eq_true hi.1,decide_eq_true (Nat.zero_le _)⟩,decide_eq_true (by omega)⟩) ?_
  refine Tot.chk (decide_eq_true (show _≤4294967296 by simp;omega)) ?_
  refine Tot.chk (decide_eq_true (show _≤4294967296 by simp;omega)) ?_
  refine Tot.chk (by rw [Bool.and_eq_true,Bool.and_eq_true];exact⟨⟨decide_eq_true hi.1,decide_eq_true (by omega)⟩,decide_eq_true (Nat.le_refl _)⟩) ?_
  refine Tot.chk (decide_eq_true (show _≤4294967296 by simp;omega)) ?_
  refine Tot.some ?_
  rw [List.drop_zero,List.take_length,List.append_assoc]
  refine(List.Perm.append_left _ List.perm_append_comm).trans ?_
  rw [← List.append_assoc,List.take_append_drop]
theorem A9w {u:A6} {L:List A1} {J:Nat} (hL:(∀ y∈L,uok y)∧L.length≤100∧jlen L=J) (hW:∀ p∈u.fWithdraw,pV p) (hW2:u.fWithdraw.length≤256) (hA:∀ p∈u.fAnnounce,pV p) (hA2:u.fAnnounce.length≤256) :
  Tot ((A0f L).bind fun r26 =>
   (if (r26.2 != (0:Int))=true then
   some (([]:List Int),r26.2)
   else
   (H2 u.fWithdraw false).bind fun r28 =>
   chk (decide ((([(IntKind.u8.wrap (shrI .i64 (r28.length:Int) (8:Int))),(IntKind.u8.wrap (r28.length:Int))]:List Int)++r28).length≤LIM)) <|
   chk (decide (((([(IntKind.u8.wrap (shrI .i64 (r28.length:Int) (8:Int))),(IntKind.u8.wrap (r28.length:Int))]:List Int)++r28)++([(IntKind.u8.wrap (shrI .i64 (r26.1.length:Int) (8:Int))),(IntKind.u8.wrap (r26.1.length:Int))]:List Int)).length≤LIM)) <|
   chk (decide ((((([(IntKind.u8.wrap (shrI .i64 (r28.length:Int) (8:Int))),(IntKind.u8.wrap (r28.length:Int))]:List Int)++r28)++([(IntKind.u8.wrap (shrI .i64 (r26.1.length:Int) (8:Int))),(IntKind.u8.wrap (r26.1.length:Int))]:List Int))++r26.1).length≤LIM)) <|
   (H2 u.fAnnounce false).bind fun r32 =>
   chk (decide (((((([(IntKind.u8.wrap (shrI .i64 (r28.length:Int) (8:Int))),(IntKind.u8.wrap (r28.length:Int))]:List Int)++r28)++([(IntKind.u8.wrap (shrI .i64 (r26.1.length:Int) (8:Int))),(IntKind.u8.wrap (r26.1.length:Int))]:List Int))++r26.1)++r32).length≤LIM)) <|
   some (((((([(IntKind.u8.wrap (shrI .i64 (r28.length:Int) (8:Int))),(IntKind.u8.wrap (r28.length:Int))]:List Int)++r28)++([(IntKind.u8.wrap (shrI .i64 (r26.1.length:Int) (8:Int))),(IntKind.u8.wrap (r26.1.length:Int))]:List Int))++r26.1)++r32),(0:Int))))
   (fun r=>((r.2==0)&&(decide ((r.1.length:Int)≤4077)))=true↔J≤2048∧4+clen false u.fWithdraw+J+clen false u.fAnnounce≤4077):=by
 refine Tot.bindT (B3x hL.1 hL.2.1) fun r2 h2 => ?_
 rw [hL.2.2] at h2
 have c3:=A1a false u.fWithdraw hW
 have c4:=A1a false u.fAnnounce hA
 refine Tot.ite (fun e => ?_) (fun e => ?_)
 ·refine Tot.some ?_
  have hne:r2.2≠0:=by simpa using e
  have hJ:¬ J≤2048:=fun h=>hne (h2.1.2 h)
  have:(r2.2==0)=false:=by simpa using hne
  simp [this,hJ]
 ·have h0:r2.2=0:=by simpa using e
  have hJ:=h2.1.1 h0
  have h2l:=h2.2 hJ
  refine Tot.bindT (A2z hW hW2 false) fun r3 h3 => ?_
  refine Tot.chk (decide_eq_true (show _≤4294967296 by simp;omega)) ?_
  refine Tot.chk (decide_eq_true (show _≤4294967296 by simp;omega)) ?_
  refine Tot.chk (decide_eq_true (show _≤4294967296 by simp;omega)) ?_
  refine Tot.bindT (A2z hA hA2 false) fun r5 h5 => ?_
  refine Tot.chk (decide_eq_true (show _≤4294967296 by simp;omega)) ?_
  refine Tot.some ?_
  simp only [beq_self_eq_true,Bool.true_and,decide_eq_true_eq]
  simp only [List.length_append,List.length_cons,List.length_nil]
  constructor
  ·intro h;exact⟨hJ,by omega⟩
  ·rintro⟨_,h⟩;omega
theorem rcodes0 (v:Bool):H2 [] v=some []:=by
 obtain⟨b,e,hb⟩:=A2z (l:=[]) (by simp) (by simp) v
 rw [e,List.length_eq_zero_iff.1 (show b.length=0 from hb)]
theorem B64 {l:List A2} (hl:∀ p∈l,pV p) (h256:l.length≤256):Tot (T1 (uW l)) (fun r=>((r.2==0)&&(decide ((r.1.length:Int)≤4077)))=true↔aw (clen true l)≤2048∧4+clen false l+aw (clen true l)≤4077):=by
 unfold T1
 refine Tot.jn ?_
 refine Tot.iteF rfl ?_
 refine Tot.bindOf (show H2 (uW l).fAnnounce true=some [] from rcodes0 true) ?_
 refine Tot.jn ?_
 refine Tot.iteF rfl ?_
 have hc:=A1a true l hl
 refine Tot.bindT (A2z (l:=(uW l).fWithdraw) hl h256 true) fun b hb => ?_
 have hb':b.length=clen true l:=hb
 refine Tot.jnR (fun L=>(∀ y∈L,uok y)∧L.length≤100∧jlen L=aw (clen true l)) (fun j hj => ?_) (fun L hL => ?_)
 ·refine Tot.ite (fun e => ?_) (fun e => ?_)
  ·have e':0<b.length:=by have:=of_decide_eq_true e;omega
   refine Tot.chk (decide_eq_true (show _≤4294967296 by simp;omega)) ?_
   refine Tot.bindT (B1k (by simp) _) fun r hr => ?_
   refine hj _ ⟨fun y hy => ?_,by rw [hr.length_eq];simp,?_⟩
   ·have:=hr.mem_iff.1 hy
    simp at this;subst this
    exact⟨by simp,by simp,by simp;omega⟩
   ·have:clen true l≠0:=by omega
    rw [A40 hr]
    simp [jlen,aw,this,hb']
    rw [show 3+clen true l=clen true l+1+1+1 by omega]
  ·have e':¬ 0<b.length:=by have:=of_decide_eq_false e;omega
   refine hj _ ⟨fun y hy=>by simp at hy,by simp,?_⟩
   have:clen true l=0:=by omega
   simp [jlen,aw,this]
 ·refine(A9w (u:=uW l) hL hl h256 (by intro p hp;cases hp) (by simp [uW])).mono fun r hr => ?_
  rw [hr]
  show aw (clen true l)≤2048∧4+clen false l+aw (clen true l)+0≤4077↔_
  exact Iff.rfl
theorem B65 {n m:Int} {x:D0} (h:dOk n x m) {l:List A2} (hl:∀ p∈l,pV p) (h256:l.length≤256) (h0:l≠[]) (hf:∀ p∈l,p.fAddr.fV6=x.fV6):Tot (T1 (uA n x m l)) (fun r=>((r.2==0)&&(decide ((r.1.length:Int)≤4077)))=true↔aa x (clen true l)≤2048∧4+aa x (clen true l)+clen false l≤4077):=by
 unfold T1
 have hlen:decide ((0:Int)<((uA n x m l).fAnnounce.length:Int))=true:=by
  have:0<l.length:=List.length_pos_iff.2 h0
  exact decide_eq_true (by show(0:Int)<(l.length:Int);omega)
 have hc:=A1a true l hl
 refine Tot.jn ?_
 refine Tot.iteT hlen ?_
 refine Tot.bindT (B2f h) fun r hr => ?_
 refine Tot.iteF (by rw [hr.1];rfl) ?_
 refine Tot.bindT (A2z (l:=(uA n x m l).fAnnounce) hl h256 true) fun c hcl => ?_
 have hcl':c.length=clen true l:=hcl
 refine Tot.jnR (fun L=>(∀ y∈L,uok y)∧L.length≤100∧jlen L=aa x (clen true l)) (fun j hj => ?_) (fun L hL => ?_)
 ·refine Tot.ite (fun e => ?_) (fun e => ?_)
  ·have e':0<c.length:=by have:=of_decide_eq_true e;omega
   have hv:x.fV6=true:=by
    cases hx:x.fV6 with
    | true=>rfl
    | false =>
     have:clen true l=0:=A96.2 fun p hp=>by rw [hf p hp,hx];simp
     omega
   refine Tot.bindT (A6u (show aV (uA n x m l).fAttrs.fNext from h.next)) fun b hb => ?_
   have hb':b.length=16:=by
    have:8*b.length=wid x.fV6:=hb
    rw [hv] at this;simp [wid] at this;omega
   refine Tot.chk (decide_eq_true (show _≤4294967296 by simp;omega)) ?_
   refine Tot.chk (decide_eq_true (show _≤4294967296 by simp;omega)) ?_
   refine Tot.chk (decide_eq_true (show _≤4294967296 by simp;omega)) ?_
   refine Tot.bindT (B1k (by have:=hr.2.2.1;omega) _) fun r' hr' => ?_
   refine hj _ ⟨fun y hy => ?_,by rw [hr'.length_eq];simp;have:=hr.2.2.1;omega,?_⟩
   ·have:=hr'.mem_iff.1 hy
    rcases List.mem_append.1 this with hy | hy
    ·exact hr.2.1 y hy
    ·simp at hy;subst hy
     exact⟨by simp,by simp,by simp;omega⟩
   ·rw [A40 hr',A20,hr.2.2.2]
    simp [jlen,aa,hv,hb',hcl']
    rw [show 16+(clen true l+1)+1+1+1+1=21+clen true l by omega]
  ·have e':¬ 0<c.length:=by have:=of_decide_eq_false e;omega
   have hv:x.fV6=false:=by
    cases hx:x.fV6 with
    | false=>rfl
    | true =>
     have h1:clen true l=0:=by omega
     obtain⟨p,l',rfl⟩:=List.exists_cons_of_ne_nil h0
     exact absurd ((hf p (List.mem_cons_self ..)).trans hx) (A96.1 h1 p (List.mem_cons_self ..))
   exact hj _ ⟨hr.2.1,by have:=hr.2.2.1;omega,by rw [hr.2.2.2];simp [aa,hv]⟩
 ·refine Tot.bindOf (show H2 (uA n x m l).fWithdraw true=some [] from rcodes0 true) ?_
  refine Tot.jn ?_
  refine Tot.iteF rfl ?_
  refine(A9w (u:=uA n x m l) hL (by intro p hp;cases hp) (by simp [uA]) hl h256).mono fun r hr => ?_
  rw [hr]
  show aa x (clen true l)≤2048∧4+0+aa x (clen true l)+clen false l≤4077↔_
  rw [Nat.add_zero]
theorem B1l {u:A6} (hl:∀ p∈u.fWithdraw++u.fAnnounce,aR p.fAddr) (hn:(u.fWithdraw++u.fAnnounce).length≤100000):Tot (loop (P0 u) (0:Int)) (fun x=>(x = .inr ()∧∀ p∈u.fWithdraw++u.fAnnounce,pV p)∨(x = .inl ()∧¬ ∀ p∈u.fWithdraw++u.fAnnounce,pV p)):=by
 refine Tot.rng (u.fWithdraw++u.fAnnounce).length (fun k (_:Unit)=>(k:Int)) (fun k _=>∀ p∈(u.fWithdraw++u.fAnnounce).take k,pV p) _ () rfl (by simp) (fun k b hk hb => ?_) (fun b hb => ?_)
 ·unfold P0
  refine Tot.iteT (decide_eq_true (by show(k:Int)<_;omega)) ?_
  refine Tot.bindIdx k rfl hk ?_
  refine Tot.bindIdx k rfl hk ?_
  refine Tot.bindOf (A9s (hl _ (List.getElem_mem hk))) ?_
  refine Tot.ite (fun e => ?_) (fun e => ?_)
  ·refine Tot.stop (.inr ⟨rfl,fun h => ?_⟩)
   have:=h _ (List.getElem_mem hk)
   rw [← Q2] at this
   rw [this] at e;cases e
  ·refine Tot.step () (E8 hk (by omega)) ?_
   intro p hp
   rw [J4 hk] at hp
   rcases List.mem_append.1 hp with hp | hp
   ·exact hb p hp
   ·rw [List.mem_singleton.1 hp]
    exact Q2.1 (by simpa using e)
 ·unfold P0
  refine Tot.iteF (by simp) ?_
  rw [List.take_length] at hb
  exact Tot.last (.inl ⟨rfl,hb⟩)
theorem B50 {l:List A2} (hl:∀ p∈l,aR p.fAddr) (hn:l.length≤100000):L4 (uW l)=some (bW l):=by
 refine A6i ?_ B2c
 unfold L4
 have e0:decide ((256:Int)<((uW l).fAnnounce.length:Int))=false:=rfl
 have eu:(uW l).fWithdraw++(uW l).fAnnounce=l:=by simp [uW]
 rw [e0,Bool.or_false]
 refine Tot.ite (fun e=>Tot.some ⟨(fun e=>by cases e),fun h => ?_⟩) (fun e => ?_)
 ·have h1:=of_decide_eq_true e
  have h2:=h.len
  have:(256:Int)<(l.length:Int):=h1
  omega
 ·have h256:l.length≤256:=by
   have h1:=of_decide_eq_false e
   have:¬ (256:Int)<(l.length:Int):=h1
   omega
  refine Tot.chk (decide_eq_true (show l.length≤4294967296 by omega)) ?_
  refine Tot.chk (decide_eq_true (show _≤4294967296 by rw [eu];omega)) ?_
  refine Tot.bindT (B1l (u:=uW l) (by rw [eu];exact hl) (by rw [eu];omega)) fun x hx => ?_
  rw [eu] at hx
  rcases hx with ⟨rfl,hv⟩ | ⟨rfl,hv⟩
  ·simp only
   refine Tot.jnR (fun m=>m=false) (fun j hj => ?_) (fun m hm => ?_)
   ·refine Tot.iteT rfl ?_
    refine Tot.bindOf A6t ?_
    refine Tot.bindOf (show A0e (uW l).fAttrs noD=some true from B4v) ?_
    exact hj _ rfl
   ·subst hm
    refine Tot.iteF rfl ?_
    refine Tot.bindOf (x:=.inr ()) (by rw [A8];simp [P1,uW]) ?_
    simp only
    refine Tot.bindT (B64 hv h256) fun r hr=>Tot.some ?_
    rw [hr]
    exact⟨fun h=>⟨h256,hv,h.1,h.2⟩,fun h=>⟨h.att,h.all⟩⟩
  ·simp only
   exact Tot.some ⟨(fun e=>by cases e),fun h=>absurd h.val hv⟩
theorem B1m {n m:Int} {x:D0} (h:dOk n x m) {l:List A2} (hl:∀ p∈l,aR p.fAddr) (hn:l.length≤100000) (h0:l≠[]):L4 (uA n x m l)=some (bA x l):=by
 refine A6i ?_ B2d
 unfold L4
 have e0:decide ((256:Int)<((uA n x m l).fWithdraw.length:Int))=false:=rfl
 have eu:(uA n x m l).fWithdraw++(uA n x m l).fAnnounce=l:=by simp [uA]
 rw [e0,Bool.false_or]
 refine Tot.ite (fun e=>Tot.some ⟨(fun e=>by cases e),fun h => ?_⟩) (fun e => ?_)
 ·have h1:=of_decide_eq_true e
  have h2:=h.len
  have:(256:Int)<(l.length:Int):=h1
  omega
 ·have h256:l.length≤256:=by
   have h1:=of_decide_eq_false e
   have:¬ (256:Int)<(l.length:Int):=h1
   omega
  refine Tot.chk (decide_eq_true (show 0≤4294967296 by omega)) ?_
  refine Tot.chk (decide_eq_true (show _≤4294967296 by rw [eu];omega)) ?_
  refine Tot.bindT (B1l (u:=uA n x m l) (by rw [eu];exact hl) (by rw [eu];omega)) fun y hy => ?_
  rw [eu] at hy
  rcases hy with ⟨rfl,hv⟩ | ⟨rfl,hv⟩
  ·simp only
   refine Tot.jnR (fun m=>m=false) (fun j hj => ?_) (fun m hm => ?_)
   ·refine Tot.iteF ?_ (hj _ rfl)
    show((l.length:Int)==0)=false
    rw [Bool.eq_false_iff];intro e;simp at e;exact h0 e
   ·subst hm
    refine Tot.iteF rfl ?_
    refine Tot.bindRng l.length (fun k (_:Unit)=>(k:Int)) (fun k _=>∀ p∈l.take k,p.fAddr.fV6=x.fV6) (fun y=>(y = .inr ()∧∀ p∈l,p.fAddr.fV6=x.fV6)∨(y = .inl ()∧¬ ∀ p∈l,p.fAddr.fV6=x.fV6)) () rfl (by simp) (fun k b hk hb => ?_) (fun b hb => ?_) (fun y hy => ?_)
    ·unfold P1
     refine Tot.iteT (decide_eq_true (by show(k:Int)<(l.length:Int);omega)) ?_
     refine Tot.bindIdx k rfl (show k<l.length from hk) ?_
     have hz:(((l[k].fAddr.fV6 != x.fV6) || ((0:Int) == -1)) || ((x.fV6==false)&&((x.fHi==0)&&((x.fLo==0)&&true))))=(l[k].fAddr.fV6 != x.fV6):=by rw [nz_b h.nz];simp
     refine Tot.jnR (fun m=>m=(l[k].fAddr.fV6 != x.fV6)) (fun j hj => ?_) (fun m hm => ?_)
     ·show Tot (if (((l[k].fAddr.fV6 != x.fV6) || ((0:Int) == -1)) || ((x.fV6==false)&&((x.fHi==0)&&((x.fLo==0)&&true))))=true then _ else _) _
      rw [hz]
      refine Tot.ite (fun e=>hj _ e.symm) (fun e => ?_)
      refine Tot.bindOf (show T0 (uA n x m l).fAttrs=some true from A7c h) ?_
      exact hj _ e.symm
     ·refine Tot.ite (fun e => ?_) (fun e => ?_)
      ·refine Tot.stop (.inr ⟨rfl,fun h => ?_⟩)
       have:=h _ (List.getElem_mem hk)
       rw [hm,this] at e;simp at e
      ·refine Tot.step () (E8 hk (by omega)) ?_
       intro p hp
       rw [J4 hk] at hp
       rcases List.mem_append.1 hp with hp | hp
       ·exact hb p hp
       ·rw [List.mem_singleton.1 hp]
        rw [hm] at e
        simpa using e
    ·unfold P1
     refine Tot.iteF (decide_eq_false (by show ¬ (l.length:Int)<(l.length:Int);omega)) ?_
     rw [List.take_length] at hb
     exact Tot.last (.inl ⟨rfl,hb⟩)
    ·rcases hy with ⟨rfl,hf⟩ | ⟨rfl,hf⟩
     ·simp only
      refine Tot.bindT (B65 h hv h256 h0 hf) fun r hr=>Tot.some ?_
      rw [hr]
      exact⟨fun h=>⟨h256,hv,hf,h.1,h.2⟩,fun h=>⟨h.att,h.all⟩⟩
     ·simp only
      exact Tot.some ⟨(fun e=>by cases e),fun h=>absurd h.fam hf⟩
  ·simp only
   exact Tot.some ⟨(fun e=>by cases e),fun h=>absurd h.val hv⟩
def ck (V:List A2→Bool):List A2→List A2→List (List A2)
 | cur,[]=>[cur]
 | cur,p :: l=>if V (cur++[p])=true then ck V (cur++[p]) l else cur :: ck V [p] l
def chunks (V:List A2→Bool):List A2→List (List A2)
 | []=>[]
 | p :: l=>ck V [p] l
theorem B66 {V:List A2→Bool} {cur l:List A2} (h:∀ p l',l=p :: l'→V (cur++[p])=false):ck V cur l=cur :: chunks V l:=by
 cases l with
 | nil=>rfl
 | cons p l=>simp only [ck,chunks];rw [if_neg (by rw [h p l rfl];simp)]
theorem B6d {V:List A2→Bool} {cur l:List A2} {p:A2} (h:V (cur++[p])=true):ck V cur (p :: l)=ck V (cur++[p]) l:=by
 simp only [ck];rw [if_pos h]
theorem B2g (V:List A2→Bool):∀ (l cur:List A2),(ck V cur l).length≤l.length+1
 | [],cur=>by simp [ck]
 | p :: l,cur=>by
  simp only [ck]
  split
  ·have:=B2g V l (cur++[p]);simp;omega
  ·have:=B2g V l [p];simp;omega
theorem A09 (V:List A2→Bool):∀ l:List A2,(chunks V l).length≤l.length
 | []=>by simp [chunks]
 | p :: l=>by have:=B2g V l [p];simp only [chunks,List.length_cons];omega
theorem A1c {α:Type} {l:List α} {i k:Nat} (h:k<l.length) (hi:i≤k):(l.take (k+1)).drop i=(l.take k).drop i++[l[k]]:=by
 rw [J4 h,List.drop_append_of_le_length (by simp;omega)]
theorem A97 {α:Type} {l:List α} {k:Nat} (h:k<l.length):l.drop k=l[k] :: l.drop (k+1):=List.drop_eq_getElem_cons h
theorem A9x {a:C8} {l:List A2} {ann:Bool} {V:List A2→Bool} {msg:List A2→A6} (hl:∀ p∈l,aR p.fAddr) (hn:l.length≤90000)
  (hm:∀ c:List A2,c≠[]→c.length≤90000→(∀ p∈c,aR p.fAddr)→G8 a c ann=some (msg c)∧L2 (msg c)=some (V c)) :
  P8 (C2.mk a l) ann=some ((chunks V l).map msg):=by
 refine Tot.eq ?_
 unfold P8
 have part:∀ i k:Nat,i<k→k≤l.length→((l.take k).drop i)≠[]∧((l.take k).drop i).length≤90000∧∀ p∈(l.take k).drop i,aR p.fAddr:=fun i k hik hk=>by
  have hlen:((l.take k).drop i).length=k-i:=by simp;omega
  refine⟨fun e => ?_,by omega,fun p hp=>hl p (List.mem_of_mem_take (List.mem_of_mem_drop hp))⟩
  rw [e] at hlen;simp at hlen;omega
 refine Tot.bindLoop (fun s:Int×List A6=>∃ i:Nat,s.1=i∧i≤l.length∧s.2.length≤i∧s.2++(chunks V (l.drop i)).map msg=(chunks V l).map msg) (fun s=>((l.length:Int)-s.1).toNat) (fun r=>r=(chunks V l).map msg) ⟨0,rfl,Nat.zero_le _,by simp,by simp⟩ (fun s hs => ?_) (fun r hr=>Tot.some hr)
 obtain⟨s1,s2⟩:=s
 obtain⟨i,e1,h2,h3,h4⟩:=hs
 simp only at e1 h3 h4
 subst e1
 unfold A0w
 refine Tot.ite (fun e => ?_) (fun e => ?_)
 ·have hi:i<l.length:=by have:=of_decide_eq_true e;simp only at this;omega
  refine Tot.bindLoop (fun k:Int=>∃ j:Nat,k=j∧i<j∧j≤l.length∧chunks V (l.drop i)=ck V ((l.take j).drop i) (l.drop j)) (fun k=>((l.length:Int)-k).toNat) (fun k:Int=>∃ j:Nat,k=j∧i<j∧j≤l.length∧chunks V (l.drop i)=((l.take j).drop i) :: chunks V (l.drop j)) ?_ (fun k hk => ?_) (fun k hk => ?_)
  ·refine⟨i+1,E8 hi (by omega),by omega,hi,?_⟩
   rw [A1c hi (Nat.le_refl _),A97 hi]
   simp [chunks]
  ·obtain⟨j,rfl,hj1,hj2,hj3⟩:=hk
   unfold A0v
   refine Tot.jnR (fun m=>(m=true→∃ h:j<l.length,V ((l.take (j+1)).drop i)=true)∧(m=false→∀ h:j<l.length,V ((l.take (j+1)).drop i)=false)) (fun jj hjj => ?_) (fun m hmm => ?_)
   ·refine Tot.ite (fun e => ?_) (fun e => ?_)
    ·have hjl:j<l.length:=by have:=of_decide_eq_true e;simp only at this;omega
     rw [E8 hjl (by omega)]
     refine Tot.chk ?_ ?_
     ·simp only [Bool.and_eq_true,decide_eq_true_eq]
      refine⟨⟨⟨by omega,by omega⟩,by omega⟩,by show((j+1:Nat):Int).toNat≤l.length;omega⟩
     ·obtain⟨p1,p2,p3⟩:=part i (j+1) (by omega) (by omega)
      have hmm:=hm _ p1 p2 p3
      have e1:((j+1:Nat):Int).toNat=j+1:=by omega
      have e2:((i:Nat):Int).toNat=i:=by omega
      show Tot ((G8 a ((l.take ((j+1:Nat):Int).toNat).drop ((i:Nat):Int).toNat) ann).bind _) _
      rw [e1,e2]
      refine Tot.bindOf hmm.1 ?_
      refine Tot.bindOf hmm.2 ?_
      exact hjj _ ⟨fun e=>⟨hjl,e⟩,fun e _=>e⟩
    ·have hjl:¬ j<l.length:=by have:=of_decide_eq_false e;simp only at this;omega
     exact hjj _ ⟨(fun e=>by cases e),fun _ h=>absurd h hjl⟩
   ·refine Tot.ite (fun e => ?_) (fun e => ?_)
    ·obtain⟨hjl,hv⟩:=hmm.1 e
     have hw:=E8 hjl (n:=l.length) (by omega)
     refine Tot.next ⟨j+1,hw,by omega,by omega,?_⟩ (by rw [hw];omega)
     rw [hj3,A97 hjl,B6d,A1c hjl (by omega)]
     rw [← A1c hjl (by omega)];exact hv
    ·refine Tot.out ⟨j,rfl,hj1,hj2,?_⟩
     rw [hj3]
     refine B66 fun p l' hp => ?_
     have hjl:j<l.length:=by
      refine Classical.byContradiction fun hc => ?_
      rw [List.drop_eq_nil_of_le (by omega)] at hp;cases hp
     have:=hmm.2 e hjl
     rw [A97 hjl] at hp
     cases hp
     rw [← A1c hjl (by omega)];exact this
  ·obtain⟨j,rfl,hj1,hj2,hj3⟩:=hk
   refine Tot.chk ?_ ?_
   ·simp only [Bool.and_eq_true,decide_eq_true_eq]
    refine⟨⟨⟨by omega,by omega⟩,by omega⟩,by show((j:Nat):Int).toNat≤l.length;omega⟩
   ·obtain⟨p1,p2,p3⟩:=part i j hj1 hj2
    have hmm:=hm _ p1 p2 p3
    have e1:((j:Nat):Int).toNat=j:=by omega
    have e2:((i:Nat):Int).toNat=i:=by omega
    show Tot ((G8 a ((l.take ((j:Nat):Int).toNat).drop ((i:Nat):Int).toNat) ann).bind _) _
    rw [e1,e2]
    refine Tot.bindOf hmm.1 ?_
    refine Tot.chk (decide_eq_true (show _≤4294967296 by simp;omega)) ?_
    refine Tot.next ⟨j,rfl,hj2,by simp;omega,?_⟩ (by show((l.length:Int)-(j:Int)).toNat<((l.length:Int)-(i:Int)).toNat;omega)
    rw [← h4,hj3]
    simp
 ·have hi:¬ i<l.length:=by have:=of_decide_eq_false e;simp only at this;omega
  refine Tot.out ?_
  rw [List.drop_eq_nil_of_le (by omega)] at h4
  simpa [chunks] using h4
theorem B2h (g:C2) (ann:Bool):Z5 g ann=P8 g ann:=rfl
theorem B70 {a:C8} {c:List A2} (h:c.length≤90000):G8 a c false=some (uW c):=by
 unfold G8 X7
 have:decide (c.length≤LIM)=true:=decide_eq_true (show c.length≤4294967296 by omega)
 simp [B1d,chk,this,uW]
theorem B6e {n m:Int} {x:D0} {c:List A2} (h:c.length≤90000):G8 (mkD n x m) c true=some (uA n x m c):=by
 unfold G8 X7
 have:decide (c.length≤LIM)=true:=decide_eq_true (show c.length≤4294967296 by omega)
 simp [B5z,chk,this,uA]
theorem filledW {a:C8} {l:List A2} (hl:∀ p∈l,aR p.fAddr) (hn:l.length≤90000):Z5 (C2.mk a l) false=some ((chunks bW l).map uW):=by
 rw [B2h]
 exact A9x hl hn fun c h0 h1 h2=>⟨B70 h1,B63 h2 (by omega)⟩
theorem filledA {n m:Int} {x:D0} (h:dOk n x m) {l:List A2} (hl:∀ p∈l,aR p.fAddr) (hn:l.length≤90000):P8 (C2.mk (mkD n x m) l) true=some ((chunks (bA x) l).map (uA n x m)) :=
 A9x hl hn fun c h0 h1 h2=>⟨B6e h1,B33 h h2 (by omega) h0⟩
theorem B1n {out:List A6} {u:A6} {p:A2} (hn:out.length≤100000000):F9 out u p true=some (out++[u]):=by
 unfold F9
 have:decide ((out++[u]).length≤LIM)=true:=decide_eq_true (show _≤4294967296 by simp;omega)
 simp only [jn,chk,this,Bool.not_true,Bool.false_eq_true,if_false,if_true]
theorem B34 {α:Type} {out:List α} {u:α} (hn:out.length≤100000000):idx (out++[u]) (w64 (((out++[u]).length:Int)-1))=some u:=by
 rw [show(((out++[u]).length:Nat):Int)-1=(out.length:Int) by simp,F3 (by omega) (by omega)]
 exact B2u (by simp)
theorem B1o {α:Type} {out:List α} {u v:α} (hn:out.length≤100000000):(out++[u]).set (w64 (((out++[u]).length:Int)-1)).toNat v=out++[v]:=by
 rw [show(((out++[u]).length:Nat):Int)-1=(out.length:Int) by simp,F3 (by omega) (by omega)]
 simp
theorem moreW {out:List A6} {c:List A2} {u:A6} {p:A2} (hn:out.length≤90000000) (hc:c≠[]) (hcn:c.length≤80000) (hR:∀ q∈c++[p],aR q.fAddr) :
  F9 (out++[uW c]) u p false=some (if bW (c++[p])=true then out++[uW (c++[p])] else out++[uW c]++[u]):=by
 unfold F9
 have h1:decide ((out++[uW c]++[u]).length≤LIM)=true:=decide_eq_true (show _≤4294967296 by simp;omega)
 have h2:decide ((uW c).fWithdraw.length≤LIM)=true:=decide_eq_true (show c.length≤4294967296 by omega)
 have h3:decide ((uW c).fAnnounce.length≤LIM)=true:=decide_eq_true (show 0≤4294967296 by omega)
 have h4:decide ((0:Int)<((uW c).fWithdraw.length:Int))=true:=by
  have:0<c.length:=List.length_pos_iff.2 hc
  exact decide_eq_true (by show(0:Int)<(c.length:Int);omega)
 have h5:decide (((uW c).fWithdraw++[p]).length≤LIM)=true:=decide_eq_true (show(c++[p]).length≤4294967296 by simp;omega)
 have h6:L4 (A6.mk ((uW c).fWithdraw++[p]) (uW c).fAttrs (uW c).fAnnounce)=some (bW (c++[p])):=B50 (l:=c++[p]) hR (by simp;omega)
 simp only [jn,Bool.not_false,if_true,B34 (show out.length≤100000000 by omega),Option.bind_some,chk,h1,h2,h3,h4,h5,h6,B1o (show out.length≤100000000 by omega)]
 cases bW (c++[p])<;>rfl
theorem moreA {n m:Int} {x:D0} (h:dOk n x m) {out:List A6} {c:List A2} {u:A6} {p:A2} (hn:out.length≤90000000) (hcn:c.length≤80000) (hR:∀ q∈c++[p],aR q.fAddr) :
  F9 (out++[uA n x m c]) u p false=some (if bA x (c++[p])=true then out++[uA n x m (c++[p])] else out++[uA n x m c]++[u]):=by
 unfold F9
 have h1:decide ((out++[uA n x m c]++[u]).length≤LIM)=true:=decide_eq_true (show _≤4294967296 by simp;omega)
 have h2:decide ((uA n x m c).fWithdraw.length≤LIM)=true:=decide_eq_true (show 0≤4294967296 by omega)
 have h3:decide ((uA n x m c).fAnnounce.length≤LIM)=true:=decide_eq_true (show c.length≤4294967296 by omega)
 have h4:decide ((0:Int)<((uA n x m c).fWithdraw.length:Int))=false:=rfl
 have h5:decide (((uA n x m c).fAnnounce++[p]).length≤LIM)=true:=decide_eq_true (show(c++[p]).length≤4294967296 by simp;omega)
 have h6:L4 (A6.mk (uA n x m c).fWithdraw (uA n x m c).fAttrs ((uA n x m c).fAnnounce++[p]))=some (bA x (c++[p])):=B1m (l:=c++[p]) h hR (by simp;omega) (by simp)
 simp only [jn,Bool.not_false,if_true,B34 (show out.length≤100000000 by omega),Option.bind_some,chk,h1,h2,h3,h4,h5,h6,B1o (show out.length≤100000000 by omega),Bool.false_eq_true,if_false]
 cases bA x (c++[p])<;>rfl
end Go.Proofs.YtkhjkjojjdkidaaGreatDoor
