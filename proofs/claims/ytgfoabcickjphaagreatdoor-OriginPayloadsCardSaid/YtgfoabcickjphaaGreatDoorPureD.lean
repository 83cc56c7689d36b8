/- Decks of certificates and signed origins; whom the document trusts; in plain Lean. -/
import Derived.Test.YtgfoabcickjphaaGreatDoorPureA
import Derived.Test.YtgfoabcickjphaaGreatDoorPureZJ
namespace Go.Proofs.YtgfoabcickjphaaGreatDoor
open Go Go.Vc
def CsOk (cs:List aCert):Prop:=∀ c∈cs,VRes c.fResources∧0≤c.fUntil∧c.fUntil≤100
theorem cs_raw {cs:List aCert} (h:CsOk cs):∀ c∈cs,Raw c.fResources:=fun c hc=>raw_of (h c hc).1
theorem deck_int {n:Nat} {d:xmake_Deck} (hd:DeckOk d) (h1:0<n) (h2:n≤1000000):Tot (xmake_Deck_Next d (n:Int)) (fun x=>(∃ k:Nat,x.1=k∧k<n)∧DeckOk x.2) :=
 (next_tot d hd n (by omega) (by omega)).mono fun x hx=>⟨⟨x.1.toNat,by omega,by omega⟩,hx.2.2⟩
theorem limF_v {A:List aRange} {S:List aSpan} {p q:Nat→Prop} (h:SetIs A S p q):VRes (LimF A S).1:=by
 unfold LimF
 split
 ·exact zR_V
 ·exact⟨h.av,h.va,h.sv,h.vs,by simp only;omega,by simp only;omega⟩
theorem certs_tot (d:xmake_Deck) (hd:DeckOk d):Tot (xmake_Deck_Certs d) (fun x=>(CsOk x.1∧x.1.length≤9)∧DeckOk x.2):=by
 unfold xmake_Deck_Certs
 refine Tot.bindT (next_tot _ hd 9 (by decide) (by decide)) ?_
 rintro⟨x,d1⟩ ⟨x0,x1,hd1⟩
 simp only at x0 x1 hd1 ⊢
 obtain⟨n,hn⟩:∃ n:Nat,1+x=n:=⟨(1+x).toNat,by omega⟩
 rw [w64_id (by omega) (by omega),hn]
 refine Tot.bindRng n (fun k (b:List aCert×xmake_Deck)=>(((n-k:Nat):Int),b.1,b.2)) (fun k b=>CsOk b.1∧b.1.length=k∧DeckOk b.2) (fun p=>(CsOk p.2∧p.2.length≤9)∧DeckOk p.1) ([],d1) rfl ⟨fun x hx=>(by cases hx),rfl,hd1⟩ (fun k b hk hb => ?_) (fun b hb => ?_) (fun p hp=>Tot.some hp)
 ·obtain⟨hb1,hb2,hb3⟩:=hb
  unfold xmake_Deck_Certs_L0
  refine Tot.iteT (decide_eq_true (by simp only;omega)) (Tot.bindT (next_tot _ hb3 7 (by decide) (by decide)) fun y1 z1=>Tot.bindT (next_tot _ z1.2.2 7 (by decide) (by decide)) fun y2 z2=>Tot.bindT (next_tot _ z2.2.2 4 (by decide) (by decide)) fun y3 z3=>Tot.bindT (next_tot _ z3.2.2 9 (by decide) (by decide)) fun y4 z4=>Tot.bindT (dres_tot _ z4.2.2) fun r hr=>Tot.bindT (next_tot _ hr.2 4 (by decide) (by decide)) fun y5 z5 => ?_)
  have hv:=hr.1.1
  refine Tot.jnR (fun m:Int×aResources×xmake_Deck=>VRes m.2.1∧DeckOk m.2.2) (fun j hj=>Tot.ite (fun _=>hj _ ⟨hv,z5.2.2⟩) (fun _=>Tot.ite (fun _=>Tot.ite (fun h => ?_) (fun _=>hj _ ⟨hv,z5.2.2⟩)) (fun _=>Tot.ite (fun _=>Tot.ite (fun h => ?_) (fun _=>hj _ ⟨hv,z5.2.2⟩)) (fun _=>hj _ ⟨hv,z5.2.2⟩)))) (fun m hm => ?_)
  ·have h:(0:Int)<(b.1.length:Int):=of_decide_eq_true h
   refine Tot.bindT (deck_int z5.2.2 (n:=b.1.length) (by omega) (by omega)) ?_
   rintro⟨i,d2⟩ ⟨⟨q,e,hq⟩,hd2⟩
   simp only at e hd2 ⊢
   subst e
   refine Tot.bindIdx q rfl hq (Tot.bindIdx q rfl hq (Tot.bindT (rint_tot (hb1 _ (List.getElem_mem hq)).1 hv) ?_))
   rintro x ⟨A,S,hA,rfl⟩
   exact hj _ ⟨limF_v hA,hd2⟩
  ·have h:(0:Int)<(b.1.length:Int):=of_decide_eq_true h
   refine Tot.bindT (deck_int z5.2.2 (n:=b.1.length) (by omega) (by omega)) ?_
   rintro⟨i,d2⟩ ⟨⟨q,e,hq⟩,hd2⟩
   simp only at e hd2 ⊢
   subst e
   exact Tot.bindIdx q rfl hq (Tot.bindIdx q rfl hq (hj _ ⟨(hb1 _ (List.getElem_mem hq)).1,hd2⟩))
  ·refine Tot.chk (limB (by simp;omega)) (Tot.step (b.1++[aCert.mk (w64 ((1:Int)+y1.1)) m.1 y3.1 (w64 ((10:Int)+y4.1)) m.2.1],m.2.2) ?_ ⟨fun c hc => ?_,by simp;omega,hm.2⟩)
   ·rw [w64_id (n:=((n-k:Nat):Int)-1) (by omega) (by omega),show((n-k:Nat):Int)-1=((n-(k+1):Nat):Int) from by omega]
   ·rcases List.mem_append.1 hc with e | e
    ·exact hb1 c e
    ·rw [List.mem_singleton.1 e]
     refine⟨hm.1,?_⟩
     simp only
     have:=z4.1
     have:=z4.2.1
     rw [w64_id (by omega) (by omega)]
     omega
 ·obtain⟨hb1,hb2,hb3⟩:=hb
  unfold xmake_Deck_Certs_L0
  exact Tot.iteF (decide_eq_false (by simp only;omega)) (Tot.last ⟨⟨hb1,by simp only;omega⟩,hb3⟩)
def SgOk (l:List aSigned):Prop:=∀ s∈l,(∀ o∈s.fObjects,pV o.fPrefix)∧s.fObjects.length≤3
theorem sg_L2 {cs:List aCert} (hc:CsOk cs) (hl:cs.length≤1000) (m:Int×xmake_Deck) {o:aObject} (ho:pV o.fPrefix) {d:xmake_Deck} (hd:DeckOk d) :
  Tot (loop (xmake_Deck_Signed_2_L2 cs m) ((0:Int),o,d)) (fun x=>pV x.1.fPrefix∧DeckOk x.2):=by
 refine Tot.rng cs.length (fun k (b:aObject×xmake_Deck)=>(((k:Nat):Int),b.1,b.2)) (fun k b=>pV b.1.fPrefix∧DeckOk b.2) _ (o,d) rfl ⟨ho,hd⟩ (fun k b hk hb => ?_) (fun b hb => ?_)
 ·have hw:w64 ((k:Int)+1)=((k+1:Nat):Int):=by rw [w64_id (by omega) (by omega)];rfl
  obtain⟨hb1,hb2⟩:=hb
  have hv:=(hc _ (List.getElem_mem hk)).1
  have hx:=vres_x hv
  have hla:=hv.la
  obtain⟨e1,e2⟩:=rpres_eq hx (by omega)
  have hm:=px_mem hx
  unfold xmake_Deck_Signed_2_L2
  refine Tot.iteT (by simpa using hk) (Tot.bindIdx k rfl hk (Tot.bindOf e1 ?_))
  generalize cs[k].fResources.fAddrs.flatMap PX=ps at e2 hm ⊢
  refine Tot.jnR (fun q:Bool×xmake_Deck=>(q.1=true→0<ps.length)∧DeckOk q.2) (fun j hj=>Tot.ite (fun h => ?_) (fun h=>hj _ ⟨fun e=>(by cases e),hb2⟩)) (fun q hq => ?_)
  ·simp only [Bool.and_eq_true,decide_eq_true_eq] at h
   exact Tot.bindT (next_tot _ hb2 2 (by decide) (by decide)) fun y hy=>hj _ ⟨fun _=>by omega,hy.2.2⟩
  ·refine Tot.jnR (fun z:aObject×xmake_Deck=>pV z.1.fPrefix∧DeckOk z.2) (fun j hj=>Tot.ite (fun h => ?_) (fun h=>hj _ ⟨hb1,hq.2⟩)) (fun z hz=>Tot.step z (by rw [hw]) hz)
   have hpos:=hq.1 h
   refine Tot.bindT (deck_int hq.2 (n:=ps.length) hpos (by omega)) ?_
   rintro⟨i,d2⟩ ⟨⟨q2,e,hq2⟩,hd2⟩
   simp only at e hd2 ⊢
   subst e
   exact Tot.bindIdx q2 rfl hq2 (hj _ ⟨hm _ (List.getElem_mem hq2),hd2⟩)
 ·unfold xmake_Deck_Signed_2_L2
  exact Tot.iteF (by simp) (Tot.last hb)
theorem sg_L1 {cs:List aCert} (hc:CsOk cs) (hl:cs.length≤1000) (r m:Int×xmake_Deck) (n:Nat) (hn:n≤3) {d:xmake_Deck} (hd:DeckOk d) :
  Tot (loop (xmake_Deck_Signed_2_L1 cs r m) ((n:Int),([]:List aObject),d)) (fun x=>((∀ o∈x.1,pV o.fPrefix∧o.fASN=r.1)∧x.1.length≤3)∧DeckOk x.2):=by
 refine Tot.rng n (fun k (b:List aObject×xmake_Deck)=>(((n-k:Nat):Int),b.1,b.2)) (fun k b=>(∀ o∈b.1,pV o.fPrefix∧o.fASN=r.1)∧b.1.length=k∧DeckOk b.2) _ ([],d) rfl ⟨fun x hx=>(by cases hx),rfl,hd⟩ (fun k b hk hb => ?_) (fun b hb => ?_)
 ·obtain⟨hb1,hb2,hb3⟩:=hb
  unfold xmake_Deck_Signed_2_L1
  refine Tot.iteT (decide_eq_true (by simp only;omega)) (Tot.bindT (obj_tot _ hb3) fun o ho=>Tot.bindT (sg_L2 hc hl m ho.1 ho.2) fun p hp => ?_)
  refine Tot.chk (limB (by simp;omega)) (Tot.step (b.1++[aObject.mk p.1.fPrefix p.1.fMax r.1],p.2) ?_ ⟨fun y hm => ?_,by simp;omega,hp.2⟩)
  ·rw [w64_id (by omega) (by omega),show((n-k:Nat):Int)-1=((n-(k+1):Nat):Int) from by omega]
  ·rcases List.mem_append.1 hm with hm | hm
   ·exact hb1 y hm
   ·rw [List.mem_singleton.1 hm];exact⟨hp.1,rfl⟩
 ·obtain⟨hb1,hb2,hb3⟩:=hb
  unfold xmake_Deck_Signed_2_L1
  exact Tot.iteF (decide_eq_false (by simp only;omega)) (Tot.last ⟨⟨hb1,by simp only;omega⟩,hb3⟩)
theorem signed_tot (d:xmake_Deck) (hd:DeckOk d) {cs:List aCert} (hc:CsOk cs) (hl:cs.length≤1000):Tot (xmake_Deck_Signed_2 d cs) (fun x=>(SgOk x.1∧x.1.length≤5)∧DeckOk x.2):=by
 unfold xmake_Deck_Signed_2
 refine Tot.bindT (next_tot _ hd 6 (by decide) (by decide)) ?_
 rintro⟨x,d1⟩ ⟨x0,x1,hd1⟩
 simp only at x0 x1 hd1 ⊢
 obtain⟨n,rfl⟩:∃ n:Nat,x=n:=⟨x.toNat,by omega⟩
 refine Tot.bindRng n (fun k (b:List aSigned×xmake_Deck)=>(((n-k:Nat):Int),b.1,b.2)) (fun k b=>SgOk b.1∧b.1.length=k∧DeckOk b.2) (fun p=>(SgOk p.2∧p.2.length≤5)∧DeckOk p.1) ([],d1) rfl ⟨fun x hx=>(by cases hx),rfl,hd1⟩ (fun k b hk hb => ?_) (fun b hb => ?_) (fun p hp=>Tot.some hp)
 ·obtain⟨hb1,hb2,hb3⟩:=hb
  unfold xmake_Deck_Signed_2_L0
  refine Tot.iteT (decide_eq_true (by simp only;omega)) (Tot.bindT (next_tot _ hb3 7 (by decide) (by decide)) fun y1 z1=>Tot.bindT (next_tot _ z1.2.2 5 (by decide) (by decide)) fun y2 z2=>Tot.bindT (next_tot _ z2.2.2 3 (by decide) (by decide)) fun y3 z3=>Tot.bindT (next_tot _ z3.2.2 9 (by decide) (by decide)) fun y4 z4 => ?_)
  refine Tot.jnR (fun m:Bool×xmake_Deck=>(m.1=true→0<cs.length)∧DeckOk m.2) (fun j hj=>Tot.ite (fun h => ?_) (fun h=>hj _ ⟨fun e=>(by cases e),z4.2.2⟩)) (fun m hm => ?_)
  ·have h:=of_decide_eq_true h
   exact Tot.bindT (next_tot _ z4.2.2 4 (by decide) (by decide)) fun y hy=>hj _ ⟨fun _=>by omega,hy.2.2⟩
  refine Tot.jnR (fun q:Int×xmake_Deck=>DeckOk q.2) (fun j hj=>Tot.ite (fun h => ?_) (fun h=>hj _ hm.2)) (fun q hq => ?_)
  ·refine Tot.bindT (deck_int hm.2 (n:=cs.length) (hm.1 h) (by omega)) ?_
   rintro⟨i,d2⟩ ⟨⟨q2,e,hq2⟩,hd2⟩
   simp only at e hd2 ⊢
   subst e
   exact Tot.bindIdx q2 rfl hq2 (hj _ hd2)
  ·refine Tot.bindT (deck_int hq (n:=4) (by decide) (by decide)) ?_
   rintro⟨i,d2⟩ ⟨⟨q2,e,hq2⟩,hd2⟩
   simp only at e hd2 ⊢
   subst e
   refine Tot.bindT (sg_L1 hc hl y2 q q2 (by omega) hd2) fun p hp => ?_
   refine Tot.chk (limB (by simp;omega)) (Tot.step (b.1++[aSigned.mk q.1 y2.1 y3.1 (w64 ((9:Int)+y4.1)) p.1],p.2) ?_ ⟨fun s hs => ?_,by simp;omega,hp.2⟩)
   ·rw [w64_id (n:=((n-k:Nat):Int)-1) (by omega) (by omega),show((n-k:Nat):Int)-1=((n-(k+1):Nat):Int) from by omega]
   ·rcases List.mem_append.1 hs with e | e
    ·exact hb1 s e
    ·rw [List.mem_singleton.1 e]
     exact⟨fun o ho=>(hp.1.1 o ho).1,hp.1.2⟩
 ·obtain⟨hb1,hb2,hb3⟩:=hb
  unfold xmake_Deck_Signed_2_L0
  exact Tot.iteF (decide_eq_false (by simp only;omega)) (Tot.last ⟨⟨hb1,by simp only;omega⟩,hb3⟩)
theorem setting_tot (d:xmake_Deck) (hd:DeckOk d):Tot (xlaw22_setting_2 d) (fun x=>(CsOk x.1∧x.1.length≤9)∧(SgOk x.2.1∧x.2.1.length≤5)∧(0≤x.2.2.1∧x.2.2.1<14)∧DeckOk x.2.2.2):=by
 unfold xlaw22_setting_2
 exact Tot.bindT (certs_tot d hd) fun c hc=>Tot.bindT (signed_tot _ hc.2 hc.1.1 (by have:=hc.1.2;omega)) fun s hs=>Tot.bindT (next_tot _ hs.2 14 (by decide) (by decide)) fun t ht=>Tot.some ⟨hc.1,hs.1,⟨ht.1,ht.2.1⟩,ht.2.2⟩
theorem anchors_tot (n:Int):Tot (xlaw22_anchors n) (fun l=>l.length≤7):=by
 unfold xlaw22_anchors
 have h1:=Int.emod_nonneg n (show(4:Int)≠0 by omega)
 have h2:=Int.emod_lt_of_pos n (show(0:Int)<4 by omega)
 obtain⟨k,hk⟩:∃ k:Nat,n % 4=k:=⟨(n % 4).toNat,by omega⟩
 refine Tot.bindOf (mod_eq n 4 (by decide) (by decide)) ?_
 rw [hk]
 refine Tot.bindIdx k rfl (show k<4 by omega) (Tot.some ?_)
 have:k=0∨k=1∨k=2∨k=3:=by omega
 rcases this with rfl | rfl | rfl | rfl<;>simp
end Go.Proofs.YtgfoabcickjphaaGreatDoor
