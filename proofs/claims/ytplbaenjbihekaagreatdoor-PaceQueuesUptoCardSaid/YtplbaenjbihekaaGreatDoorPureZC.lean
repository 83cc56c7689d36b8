/- The document takes the same messages; lists cut into messages; what is packed, in plain Lean. -/
import Derived.Test.YtplbaenjbihekaaGreatDoorPureZB
namespace Go.Proofs.YtplbaenjbihekaaGreatDoor
open Go Go.Vc
theorem B4o {u:A7} {L:List A3} {J:Nat} (hL:(∀ y∈L,uok y)∧L.length≤100∧jlen L=J) (hW:∀ p∈u.fWithdraw,pV p) (hW2:u.fWithdraw.length≤256) (hA:∀ p∈u.fAnnounce,pV p) (hA2:u.fAnnounce.length≤256) :
  Tot ((A3b L).bind fun r26 =>
   (if (r26.2 != (0:Int))=true then
   some (([]:List Int),r26.2)
   else
   (J9 u.fWithdraw false).bind fun r28 =>
   chk (decide ((([IntKind.u8.wrap (shrI .i64 (r28.length:Int) (8:Int)),IntKind.u8.wrap (r28.length:Int)]:List Int)++r28).length≤LIM)) <|
   chk (decide (((([IntKind.u8.wrap (shrI .i64 (r28.length:Int) (8:Int)),IntKind.u8.wrap (r28.length:Int)]:List Int)++r28)++([IntKind.u8.wrap (shrI .i64 (r26.1.length:Int) (8:Int)),IntKind.u8.wrap (r26.1.length:Int)]:List Int)).length≤LIM)) <|
   chk (decide ((((([IntKind.u8.wrap (shrI .i64 (r28.length:Int) (8:Int)),IntKind.u8.wrap (r28.length:Int)]:List Int)++r28)++([IntKind.u8.wrap (shrI .i64 (r26.1.length:Int) (8:Int)),IntKind.u8.wrap (r26.1.length:Int)]:List Int))++r26.1).length≤LIM)) <|
   (J9 u.fAnnounce false).bind fun r32 =>
   chk (decide (((((([IntKind.u8.wrap (shrI .i64 (r28.length:Int) (8:Int)),IntKind.u8.wrap (r28.length:Int)]:List Int)++r28)++([IntKind.u8.wrap (shrI .i64 (r26.1.length:Int) (8:Int)),IntKind.u8.wrap (r26.1.length:Int)]:List Int))++r26.1)++r32).length≤LIM)) <|
   some (((((([IntKind.u8.wrap (shrI .i64 (r28.length:Int) (8:Int)),IntKind.u8.wrap (r28.length:Int)]:List Int)++r28)++([IntKind.u8.wrap (shrI .i64 (r26.1.length:Int) (8:Int)),IntKind.u8.wrap (r26.1.length:Int)]:List Int))++r26.1)++r32),(0:Int))))
   (fun r=>((r.2==0)&&(decide ((r.1.length:Int)≤4077)))=true↔J≤2048∧4+clen false u.fWithdraw+J+clen false u.fAnnounce≤4077):=by
 refine Tot.bindT (B9t hL.1 hL.2.1) fun r2 h2 => ?_;rw [hL.2.2] at h2;have c3:=A4b false u.fWithdraw hW;have c4:=A4b false u.fAnnounce hA;refine Tot.ite (fun e => ?_) (fun e => ?_)
 ·refine Tot.some ?_;have hne:r2.2≠0:=by simpa using e
  have hJ:¬ J≤2048:=fun h=>hne (h2.1.2 h);have:(r2.2==0)=false:=by simpa using hne
  simp [this,hJ]
 ·have h0:r2.2=0:=by simpa using e
  have hJ:=h2.1.1 h0;have h2l:=h2.2 hJ;refine Tot.bindT (A66 hW hW2 false) fun r3 h3 => ?_;refine Tot.chk (decide_eq_true (show _≤4294967296 by simp;omega)) ?_;refine Tot.chk (decide_eq_true (show _≤4294967296 by simp;omega)) ?_;refine Tot.chk (decide_eq_true (show _≤4294967296 by simp;omega)) ?_;refine Tot.bindT (A66 hA hA2 false) fun r5 h5 => ?_;refine Tot.chk (decide_eq_true (show _≤4294967296 by simp;omega)) ?_;refine Tot.some ?_;simp only [beq_self_eq_true,Bool.true_and,decide_eq_true_eq];simp only [List.length_append,List.length_cons,List.length_nil];constructor
  ·intro h;exact⟨hJ,by omega⟩
  ·rintro⟨_,h⟩;omega
theorem rcodes0 (v:Bool):J9 [] v=some []:=by
 obtain⟨b,e,hb⟩:=A66 (l:=[]) (by simp) (by simp) v;rw [e,List.length_eq_zero_iff.1 (show b.length=0 from hb)]
theorem C2l {l:List A2} (hl:∀ p∈l,pV p) (h256:l.length≤256):Tot (A0e (uW l)) (fun r=>((r.2==0)&&(decide ((r.1.length:Int)≤4077)))=true↔aw (clen true l)≤2048∧4+clen false l+aw (clen true l)≤4077):=by
 unfold A0e;refine Tot.jn ?_;refine Tot.iteF rfl ?_;refine Tot.bindOf (show J9 (uW l).fAnnounce true=some [] from rcodes0 true) ?_;refine Tot.jn ?_;refine Tot.iteF rfl ?_;have hc:=A4b true l hl;refine Tot.bindT (A66 (l:=(uW l).fWithdraw) hl h256 true) fun b hb => ?_;have hb':b.length=clen true l:=hb;refine Tot.jnR (fun L=>(∀ y∈L,uok y)∧L.length≤100∧jlen L=aw (clen true l)) (fun j hj => ?_) (fun L hL => ?_)
 ·refine Tot.ite (fun e => ?_) (fun e => ?_)
  ·have e':0<b.length:=by have:=of_decide_eq_true e;omega
   refine Tot.chk (decide_eq_true (show _≤4294967296 by simp;omega)) ?_;refine Tot.bindT (B6p (by simp) _) fun r hr => ?_;refine hj _ ⟨fun y hy => ?_,by rw [hr.length_eq];simp,?_⟩
   ·have:=hr.mem_iff.1 hy;simp at this;subst this;exact⟨by simp,by simp,by simp;omega⟩
   ·have:clen true l≠0:=by omega
    rw [A7e hr];simp [jlen,aw,this,hb'];rw [show 3+clen true l=clen true l+1+1+1 by omega]
  ·have e':¬ 0<b.length:=by have:=of_decide_eq_false e;omega
   refine hj _ ⟨fun y hy=>by simp at hy,by simp,?_⟩;have:clen true l=0:=by omega
   simp [jlen,aw,this]
 ·refine(B4o (u:=uW l) hL hl h256 (by intro p hp;cases hp) (by simp [uW])).mono fun r hr => ?_;rw [hr];show aw (clen true l)≤2048∧4+clen false l+aw (clen true l)+0≤4077↔_;exact Iff.rfl
theorem C2m {a:C2} (hs:Sm a) (hv0:attB a=true) (ho:a.fOrigin ≠ -1) (hz:a.fNext≠zA) {l:List A2} (hl:∀ p∈l,pV p) (h256:l.length≤256) (h0:l≠[]) (hf:∀ p∈l,p.fAddr.fV6=a.fNext.fV6):Tot (A0e (uAa a l)) (fun r=>((r.2==0)&&(decide ((r.1.length:Int)≤4077)))=true↔aa a (clen true l)≤2048∧4+aa a (clen true l)+clen false l≤4077):=by
 unfold A0e;have hlen:decide ((0:Int)<((uAa a l).fAnnounce.length:Int))=true:=by
  have:0<l.length:=List.length_pos_iff.2 h0;exact decide_eq_true (by show(0:Int)<(l.length:Int);omega)
 have hc:=A4b true l hl;refine Tot.jn ?_;refine Tot.iteT hlen ?_;refine Tot.bindT (B7u hs hv0 ho hz) fun r hr => ?_;refine Tot.iteF (by rw [hr.1];rfl) ?_;refine Tot.bindT (A66 (l:=(uAa a l).fAnnounce) hl h256 true) fun c hcl => ?_;have hcl':c.length=clen true l:=hcl;refine Tot.jnR (fun L=>(∀ y∈L,uok y)∧L.length≤100∧jlen L=aa a (clen true l)) (fun j hj => ?_) (fun L hL => ?_)
 ·refine Tot.ite (fun e => ?_) (fun e => ?_)
  ·have e':0<c.length:=by have:=of_decide_eq_true e;omega
   have hv:a.fNext.fV6=true:=by
    cases hx:a.fNext.fV6 with
    | true=>rfl
    | false =>
     have:clen true l=0:=B3l.2 fun p hp=>by rw [hf p hp,hx];simp
     omega
   refine Tot.bindT (B0v (show aV (uAa a l).fAttrs.fNext from(B29 hs hv0).1.next)) fun b hb => ?_;have hb':b.length=16:=by
    have:8*b.length=wid a.fNext.fV6:=hb;rw [hv] at this;simp [wid] at this;omega
   refine Tot.chk (decide_eq_true (show _≤4294967296 by simp;omega)) ?_;refine Tot.chk (decide_eq_true (show _≤4294967296 by simp;omega)) ?_;refine Tot.chk (decide_eq_true (show _≤4294967296 by simp;omega)) ?_;refine Tot.bindT (B6p (by have:=hr.2.2.1;omega) _) fun r' hr' => ?_;refine hj _ ⟨fun y hy => ?_,by rw [hr'.length_eq];simp;have:=hr.2.2.1;omega,?_⟩
   ·have:=hr'.mem_iff.1 hy;rcases List.mem_append.1 this with hy | hy
    ·exact hr.2.1 y hy
    ·simp at hy;subst hy;exact⟨by simp,by simp,by simp;omega⟩
   ·rw [A7e hr',A2k,hr.2.2.2];simp [jlen,aa,hv,hb',hcl'];rw [show 16+(clen true l+1)+1+1+1+1=21+clen true l by omega];rfl
  ·have e':¬ 0<c.length:=by have:=of_decide_eq_false e;omega
   have hv:a.fNext.fV6=false:=by
    cases hx:a.fNext.fV6 with
    | false=>rfl
    | true =>
     have h1:clen true l=0:=by omega
     obtain⟨p,l',rfl⟩:=List.exists_cons_of_ne_nil h0;exact absurd ((hf p (List.mem_cons_self ..)).trans hx) (B3l.1 h1 p (List.mem_cons_self ..))
   exact hj _ ⟨hr.2.1,by have:=hr.2.2.1;omega,by rw [hr.2.2.2];simp [aa,hv];rfl⟩
 ·refine Tot.bindOf (show J9 (uAa a l).fWithdraw true=some [] from rcodes0 true) ?_;refine Tot.jn ?_;refine Tot.iteF rfl ?_;refine(B4o (u:=uAa a l) hL (by intro p hp;cases hp) (by simp [uAa]) hl h256).mono fun r hr => ?_;rw [hr];show aa a (clen true l)≤2048∧4+0+aa a (clen true l)+clen false l≤4077↔_;rw [Nat.add_zero]
theorem B6q {u:A7} (hl:∀ p∈u.fWithdraw++u.fAnnounce,aR p.fAddr) (hn:(u.fWithdraw++u.fAnnounce).length≤100000):Tot (loop (V2 u) (0:Int)) (fun x=>(x = .inr ()∧∀ p∈u.fWithdraw++u.fAnnounce,pV p)∨(x = .inl ()∧¬ ∀ p∈u.fWithdraw++u.fAnnounce,pV p)):=by
 refine Tot.rng (u.fWithdraw++u.fAnnounce).length (fun k (_:Unit)=>(k:Int)) (fun k _=>∀ p∈(u.fWithdraw++u.fAnnounce).take k,pV p) _ () rfl (by simp) (fun k b hk hb => ?_) (fun b hb => ?_)
 ·unfold V2;refine Tot.iteT (decide_eq_true (by show(k:Int)<_;omega)) ?_;refine Tot.bindIdx k rfl hk ?_;refine Tot.bindIdx k rfl hk ?_;refine Tot.bindOf (B4j (hl _ (List.getElem_mem hk))) ?_;refine Tot.ite (fun e => ?_) (fun e => ?_)
  ·refine Tot.stop (.inr ⟨rfl,fun h => ?_⟩);have:=h _ (List.getElem_mem hk);rw [← R8] at this;rw [this] at e;cases e
  ·refine Tot.step () (C0 hk (by omega)) ?_;intro p hp;rw [F5 hk] at hp;rcases List.mem_append.1 hp with hp | hp
   ·exact hb p hp
   ·rw [List.mem_singleton.1 hp];exact R8.1 (by simpa using e)
 ·unfold V2;refine Tot.iteF (by simp) ?_;rw [List.take_length] at hb;exact Tot.last (.inl ⟨rfl,hb⟩)
theorem C1c {l:List A2} (hl:∀ p∈l,aR p.fAddr) (hn:l.length≤100000):Q1 (uW l)=some (bW l):=by
 refine A54 ?_ C1a;unfold Q1;have e0:decide ((256:Int)<((uW l).fAnnounce.length:Int))=false:=rfl;have eu:(uW l).fWithdraw++(uW l).fAnnounce=l:=by simp [uW]
 rw [e0,Bool.or_false];refine Tot.ite (fun e=>Tot.some ⟨(fun e=>by cases e),fun h => ?_⟩) (fun e => ?_)
 ·have h1:=of_decide_eq_true e;have h2:=h.len;have:(256:Int)<(l.length:Int):=h1;omega
 ·have h256:l.length≤256:=by
   have h1:=of_decide_eq_false e;have:¬ (256:Int)<(l.length:Int):=h1;omega
  refine Tot.chk (decide_eq_true (show l.length≤4294967296 by omega)) ?_;refine Tot.chk (decide_eq_true (show _≤4294967296 by rw [eu];omega)) ?_;refine Tot.bindT (B6q (u:=uW l) (by rw [eu];exact hl) (by rw [eu];omega)) fun x hx => ?_;rw [eu] at hx;rcases hx with ⟨rfl,hv⟩ | ⟨rfl,hv⟩
  ·simp only;refine Tot.jnR (fun m=>m=false) (fun j hj => ?_) (fun m hm => ?_)
   ·refine Tot.iteT rfl ?_;refine Tot.bindOf B0u ?_;refine Tot.bindOf (show A3a (uW l).fAttrs noD=some true from C0z) ?_;exact hj _ rfl
   ·subst hm;refine Tot.iteF rfl ?_;refine Tot.bindOf (x:=.inr ()) (by rw [F7];simp [V3,uW]) ?_;simp only;refine Tot.bindT (C2l hv h256) fun r hr=>Tot.some ?_;rw [hr];exact⟨fun h=>⟨h256,hv,h.1,h.2⟩,fun h=>⟨h.att,h.all⟩⟩
  ·simp only;exact Tot.some ⟨(fun e=>by cases e),fun h=>absurd h.val hv⟩
theorem B6r {a:C2} (hs:Sm a) {l:List A2} (hl:∀ p∈l,aR p.fAddr) (hn:l.length≤100000) (h0:l≠[]):Q1 (uAa a l)=some (bA a l):=by
 refine A54 ?_ C1b;unfold Q1;have e0:decide ((256:Int)<((uAa a l).fWithdraw.length:Int))=false:=rfl;have eu:(uAa a l).fWithdraw++(uAa a l).fAnnounce=l:=by simp [uAa]
 rw [e0,Bool.false_or];refine Tot.ite (fun e=>Tot.some ⟨(fun e=>by cases e),fun h => ?_⟩) (fun e => ?_)
 ·have h1:=of_decide_eq_true e;have h2:=h.len;have:(256:Int)<(l.length:Int):=h1;omega
 ·have h256:l.length≤256:=by
   have h1:=of_decide_eq_false e;have:¬ (256:Int)<(l.length:Int):=h1;omega
  refine Tot.chk (decide_eq_true (show 0≤4294967296 by omega)) ?_;refine Tot.chk (decide_eq_true (show _≤4294967296 by rw [eu];omega)) ?_;refine Tot.bindT (B6q (u:=uAa a l) (by rw [eu];exact hl) (by rw [eu];omega)) fun y hy => ?_;rw [eu] at hy;rcases hy with ⟨rfl,hv⟩ | ⟨rfl,hv⟩
  ·simp only;refine Tot.jnR (fun m=>m=false) (fun j hj => ?_) (fun m hm => ?_)
   ·refine Tot.iteF ?_ (hj _ rfl);show((l.length:Int)==0)=false;rw [Bool.eq_false_iff];intro e;simp at e;exact h0 e
   ·subst hm;refine Tot.iteF rfl ?_;refine Tot.bindRng l.length (fun k (_:Unit)=>(k:Int)) (fun k _=>∀ p∈l.take k,p.fAddr.fV6=a.fNext.fV6∧attB a=true∧a.fOrigin ≠ -1∧a.fNext≠zA) (fun y=>(y = .inr ()∧∀ p∈l,p.fAddr.fV6=a.fNext.fV6∧attB a=true∧a.fOrigin ≠ -1∧a.fNext≠zA)∨(y = .inl ()∧¬ VA a l)) () rfl (by simp) (fun k b hk hb => ?_) (fun b hb => ?_) (fun y hy => ?_)
    ·unfold V3;refine Tot.iteT (decide_eq_true (by show(k:Int)<(l.length:Int);omega)) ?_;refine Tot.bindIdx k rfl (show k<l.length from hk) ?_;have hx:aeq a.fNext zA=true↔a.fNext=zA:=A5n;have hc:(((l[k].fAddr.fV6 != a.fNext.fV6) || (a.fOrigin == -1)) || aeq a.fNext zA)=true↔¬ (l[k].fAddr.fV6=a.fNext.fV6∧a.fOrigin ≠ -1∧a.fNext≠zA):=by
      rw [Bool.or_eq_true,Bool.or_eq_true,hx,bne_iff_ne,beq_iff_eq]
      by_cases h1:l[k].fAddr.fV6=a.fNext.fV6<;>by_cases h2:a.fOrigin = -1<;>by_cases h3:a.fNext=zA<;>simp [h1,h2,h3]
     refine Tot.jnR (fun m=>m=true↔¬ (l[k].fAddr.fV6=a.fNext.fV6∧attB a=true∧a.fOrigin ≠ -1∧a.fNext≠zA)) (fun j hj => ?_) (fun m hm => ?_)
     ·refine Tot.ite (fun e=>hj _ ?_) (fun e => ?_)
      ·have:=hc.1 e;exact⟨fun _ hh=>this ⟨hh.1,hh.2.2.1,hh.2.2.2⟩,fun _=>rfl⟩
      ·have e':l[k].fAddr.fV6=a.fNext.fV6∧a.fOrigin ≠ -1∧a.fNext≠zA:=Classical.byContradiction fun hn=>by
        have:=hc.2 hn;exact absurd (this.symm.trans e) (by simp)
       refine Tot.bindOf (show M0 (uAa a l).fAttrs=some (attB a) from A9b hs) ?_;refine hj _ ?_;cases attB a<;>simp [e'.1,e'.2.1,e'.2.2]
     ·refine Tot.ite (fun e => ?_) (fun e => ?_)
      ·refine Tot.stop (.inr ⟨rfl,fun h => ?_⟩);exact hm.1 e ⟨h.fam _ (List.getElem_mem hk),h.ok,h.org,h.nz⟩
      ·have e':l[k].fAddr.fV6=a.fNext.fV6∧attB a=true∧a.fOrigin ≠ -1∧a.fNext≠zA:=Classical.byContradiction fun hn=>by
        rw [hm.2 hn] at e;cases e
       refine Tot.step () (C0 hk (by omega)) ?_;intro p hp;rw [F5 hk] at hp;rcases List.mem_append.1 hp with hp | hp
       ·exact hb p hp
       ·rw [List.mem_singleton.1 hp];exact e'
    ·unfold V3;refine Tot.iteF (decide_eq_false (by show ¬ (l.length:Int)<(l.length:Int);omega)) ?_;rw [List.take_length] at hb;exact Tot.last (.inl ⟨rfl,hb⟩)
    ·rcases hy with ⟨rfl,hf⟩ | ⟨rfl,hf⟩
     ·simp only;obtain⟨p0,hp0⟩:=List.exists_mem_of_ne_nil l h0;obtain⟨_,g1,g2,g3⟩:=hf p0 hp0;have hf':∀ p∈l,p.fAddr.fV6=a.fNext.fV6:=fun p hp=>(hf p hp).1;refine Tot.bindT (C2m hs g1 g2 g3 hv h256 h0 hf') fun r hr=>Tot.some ?_;rw [hr];exact⟨fun h=>⟨g1,g2,g3,h256,hv,hf',h.1,h.2⟩,fun h=>⟨h.att,h.all⟩⟩
     ·simp only;exact Tot.some ⟨(fun e=>by cases e),fun h=>absurd h hf⟩
  ·simp only;exact Tot.some ⟨(fun e=>by cases e),fun h=>absurd h.val hv⟩
def ck (V:List A2→Bool):List A2→List A2→List (List A2)
 | cur,[]=>[cur]
 | cur,p :: l=>if V (cur++[p])=true then ck V (cur++[p]) l else cur :: ck V [p] l
def chunks (V:List A2→Bool):List A2→List (List A2)
 | []=>[]
 | p :: l=>ck V [p] l
theorem C2n {V:List A2→Bool} {cur l:List A2} (h:∀ p l',l=p :: l'→V (cur++[p])=false):ck V cur l=cur :: chunks V l:=by
 cases l with
 | nil=>rfl
 | cons p l=>simp only [ck,chunks];rw [if_neg (by rw [h p l rfl];simp)]
theorem C2x {V:List A2→Bool} {cur l:List A2} {p:A2} (h:V (cur++[p])=true):ck V cur (p :: l)=ck V (cur++[p]) l:=by
 simp only [ck];rw [if_pos h]
theorem B7v (V:List A2→Bool):∀ (l cur:List A2),(ck V cur l).length≤l.length+1
 | [],cur=>by simp [ck]
 | p :: l,cur=>by
  simp only [ck];split
  ·have:=B7v V l (cur++[p]);simp;omega
  ·have:=B7v V l [p];simp;omega
theorem A32 (V:List A2→Bool):∀ l:List A2,(chunks V l).length≤l.length
 | []=>by simp [chunks]
 | p :: l=>by have:=B7v V l [p];simp only [chunks,List.length_cons];omega
theorem A4c {α:Type} {l:List α} {i k:Nat} (h:k<l.length) (hi:i≤k):(l.take (k+1)).drop i=(l.take k).drop i++[l[k]]:=by
 rw [F5 h,List.drop_append_of_le_length (by simp;omega)]
theorem B3o {α:Type} {l:List α} {k:Nat} (h:k<l.length):l.drop k=l[k] :: l.drop (k+1):=List.drop_eq_getElem_cons h
theorem B4p {a:C2} {l:List A2} {ann:Bool} {V:List A2→Bool} {msg:List A2→A7} (hl:∀ p∈l,aR p.fAddr) (hn:l.length≤90000)
  (hm:∀ c:List A2,c≠[]→c.length≤90000→(∀ p∈c,aR p.fAddr)→I5 a c ann=some (msg c)∧P8 (msg c)=some (V c)) :
  A02 (D3.mk a l) ann=some ((chunks V l).map msg):=by
 refine Tot.eq ?_;unfold A02;have part:∀ i k:Nat,i<k→k≤l.length→((l.take k).drop i)≠[]∧((l.take k).drop i).length≤90000∧∀ p∈(l.take k).drop i,aR p.fAddr:=fun i k hik hk=>by
  have hlen:((l.take k).drop i).length=k-i:=by simp;omega
  refine⟨fun e => ?_,by omega,fun p hp=>hl p (List.mem_of_mem_take (List.mem_of_mem_drop hp))⟩;rw [e] at hlen;simp at hlen;omega
 refine Tot.bindLoop (fun s:Int×List A7=>∃ i:Nat,s.1=i∧i≤l.length∧s.2.length≤i∧s.2++(chunks V (l.drop i)).map msg=(chunks V l).map msg) (fun s=>((l.length:Int)-s.1).toNat) (fun r=>r=(chunks V l).map msg) ⟨0,rfl,Nat.zero_le _,by simp,by simp⟩ (fun s hs => ?_) (fun r hr=>Tot.some hr);obtain⟨s1,s2⟩:=s;obtain⟨i,e1,h2,h3,h4⟩:=hs;simp only at e1 h3 h4;subst e1;unfold A3t;refine Tot.ite (fun e => ?_) (fun e => ?_)
 ·have hi:i<l.length:=by have:=of_decide_eq_true e;simp only at this;omega
  refine Tot.bindLoop (fun k:Int=>∃ j:Nat,k=j∧i<j∧j≤l.length∧chunks V (l.drop i)=ck V ((l.take j).drop i) (l.drop j)) (fun k=>((l.length:Int)-k).toNat) (fun k:Int=>∃ j:Nat,k=j∧i<j∧j≤l.length∧chunks V (l.drop i)=((l.take j).drop i) :: chunks V (l.drop j)) ?_ (fun k hk => ?_) (fun k hk => ?_)
  ·refine⟨i+1,C0 hi (by omega),by omega,hi,?_⟩;rw [A4c hi (Nat.le_refl _),B3o hi];simp [chunks]
  ·obtain⟨j,rfl,hj1,hj2,hj3⟩:=hk;unfold A3s;refine Tot.jnR (fun m=>(m=true→∃ h:j<l.length,V ((l.take (j+1)).drop i)=true)∧(m=false→∀ h:j<l.length,V ((l.take (j+1)).drop i)=false)) (fun jj hjj => ?_) (fun m hmm => ?_)
   ·refine Tot.ite (fun e => ?_) (fun e => ?_)
    ·have hjl:j<l.length:=by have:=of_decide_eq_true e;simp only at this;omega
     rw [C0 hjl (by omega)];refine Tot.chk ?_ ?_
     ·simp only [Bool.and_eq_true,decide_eq_true_eq];refine⟨⟨⟨by omega,by omega⟩,by omega⟩,by show((j+1:Nat):Int).toNat≤l.length;omega⟩
     ·obtain⟨p1,p2,p3⟩:=part i (j+1) (by omega) (by omega);have hmm:=hm _ p1 p2 p3;have e1:((j+1:Nat):Int).toNat=j+1:=by omega
      have e2:((i:Nat):Int).toNat=i:=by omega
      show Tot ((I5 a ((l.take ((j+1:Nat):Int).toNat).drop ((i:Nat):Int).toNat) ann).bind _) _;rw [e1,e2];refine Tot.bindOf hmm.1 ?_;refine Tot.bindOf hmm.2 ?_;exact hjj _ ⟨fun e=>⟨hjl,e⟩,fun e _=>e⟩
    ·have hjl:¬ j<l.length:=by have:=of_decide_eq_false e;simp only at this;omega
     exact hjj _ ⟨(fun e=>by cases e),fun _ h=>absurd h hjl⟩
   ·refine Tot.ite (fun e => ?_) (fun e => ?_)
    ·obtain⟨hjl,hv⟩:=hmm.1 e;have hw:=C0 hjl (n:=l.length) (by omega);refine Tot.next ⟨j+1,hw,by omega,by omega,?_⟩ (by rw [hw];omega);rw [hj3,B3o hjl,C2x,A4c hjl (by omega)];rw [← A4c hjl (by omega)];exact hv
    ·refine Tot.out ⟨j,rfl,hj1,hj2,?_⟩;rw [hj3];refine C2n fun p l' hp => ?_;have hjl:j<l.length:=by
      refine Classical.byContradiction fun hc => ?_;rw [List.drop_eq_nil_of_le (by omega)] at hp;cases hp
     have:=hmm.2 e hjl;rw [B3o hjl] at hp;cases hp;rw [← A4c hjl (by omega)];exact this
  ·obtain⟨j,rfl,hj1,hj2,hj3⟩:=hk;refine Tot.chk ?_ ?_
   ·simp only [Bool.and_eq_true,decide_eq_true_eq];refine⟨⟨⟨by omega,by omega⟩,by omega⟩,by show((j:Nat):Int).toNat≤l.length;omega⟩
   ·obtain⟨p1,p2,p3⟩:=part i j hj1 hj2;have hmm:=hm _ p1 p2 p3;have e1:((j:Nat):Int).toNat=j:=by omega
    have e2:((i:Nat):Int).toNat=i:=by omega
    show Tot ((I5 a ((l.take ((j:Nat):Int).toNat).drop ((i:Nat):Int).toNat) ann).bind _) _;rw [e1,e2];refine Tot.bindOf hmm.1 ?_;refine Tot.chk (decide_eq_true (show _≤4294967296 by simp;omega)) ?_;refine Tot.next ⟨j,rfl,hj2,by simp;omega,?_⟩ (by show((l.length:Int)-(j:Int)).toNat<((l.length:Int)-(i:Int)).toNat;omega);rw [← h4,hj3];simp
 ·have hi:¬ i<l.length:=by have:=of_decide_eq_false e;simp only at this;omega
  refine Tot.out ?_;rw [List.drop_eq_nil_of_le (by omega)] at h4;simpa [chunks] using h4
theorem B7w (g:D3) (ann:Bool):A2g g ann=A02 g ann:=rfl
theorem C3n {a:C2} {c:List A2} (h:c.length≤90000):I5 a c false=some (uW c):=by
 unfold I5 A1z;have:decide (c.length≤LIM)=true:=decide_eq_true (show c.length≤4294967296 by omega);simp [B69,chk,this,uW]
theorem C2y {a:C2} (hs:Sm a) {c:List A2} (h:c.length≤90000):I5 a c true=some (uAa a c):=by
 unfold I5 A1z;have:decide (c.length≤LIM)=true:=decide_eq_true (show c.length≤4294967296 by omega);simp [B6k hs,chk,this,uAa]
theorem filledW {a:C2} {l:List A2} (hl:∀ p∈l,aR p.fAddr) (hn:l.length≤90000):A2g (D3.mk a l) false=some ((chunks bW l).map uW):=by
 rw [B7w];exact B4p hl hn fun c h0 h1 h2=>⟨C3n h1,C2i h2 (by omega)⟩
theorem filledA {a:C2} (hs:Sm a) {l:List A2} (hl:∀ p∈l,aR p.fAddr) (hn:l.length≤90000):A02 (D3.mk a l) true=some ((chunks (bA a) l).map (uAa a)) :=
 B4p hl hn fun c h0 h1 h2=>⟨C2y hs h1,B8p hs h2 (by omega) h0⟩
theorem B6s {out:List A7} {u:A7} {p:A2} (hn:out.length≤100000000):H3 out u p true=some (out++[u]):=by
 unfold H3;have:decide ((out++[u]).length≤LIM)=true:=decide_eq_true (show _≤4294967296 by simp;omega);simp only [jn,chk,this,Bool.not_true,Bool.false_eq_true,if_false,if_true]
theorem B8q {α:Type} {out:List α} {u:α} (hn:out.length≤100000000):idx (out++[u]) (w64 (((out++[u]).length:Int)-1))=some u:=by
 rw [show(((out++[u]).length:Nat):Int)-1=(out.length:Int) by simp,H1 (by omega) (by omega)];exact B23 (by simp)
theorem B6t {α:Type} {out:List α} {u v:α} (hn:out.length≤100000000):(out++[u]).set (w64 (((out++[u]).length:Int)-1)).toNat v=out++[v]:=by
 rw [show(((out++[u]).length:Nat):Int)-1=(out.length:Int) by simp,H1 (by omega) (by omega)];simp
theorem moreW {out:List A7} {c:List A2} {u:A7} {p:A2} (hn:out.length≤90000000) (hc:c≠[]) (hcn:c.length≤80000) (hR:∀ q∈c++[p],aR q.fAddr) :
  H3 (out++[uW c]) u p false=some (if bW (c++[p])=true then out++[uW (c++[p])] else out++[uW c]++[u]):=by
 unfold H3;have h1:decide ((out++[uW c]++[u]).length≤LIM)=true:=decide_eq_true (show _≤4294967296 by simp;omega);have h2:decide ((uW c).fWithdraw.length≤LIM)=true:=decide_eq_true (show c.length≤4294967296 by omega);have h3:decide ((uW c).fAnnounce.length≤LIM)=true:=decide_eq_true (show 0≤4294967296 by omega);have h4:decide ((0:Int)<((uW c).fWithdraw.length:Int))=true:=by
  have:0<c.length:=List.length_pos_iff.2 hc;exact decide_eq_true (by show(0:Int)<(c.length:Int);omega)
 have h5:decide (((uW c).fWithdraw++[p]).length≤LIM)=true:=decide_eq_true (show(c++[p]).length≤4294967296 by simp;omega);have h6:Q1 (A7.mk ((uW c).fWithdraw++[p]) (uW c).fAttrs (uW c).fAnnounce)=some (bW (c++[p])):=C1c (l:=c++[p]) hR (by simp;omega);simp only [jn,Bool.not_false,if_true,B8q (show out.length≤100000000 by omega),Option.bind_some,chk,h1,h2,h3,h4,h5,h6,B6t (show out.length≤100000000 by omega)];cases bW (c++[p])<;>rfl
theorem moreA {a:C2} (hs:Sm a) {out:List A7} {c:List A2} {u:A7} {p:A2} (hn:out.length≤90000000) (hcn:c.length≤80000) (hR:∀ q∈c++[p],aR q.fAddr) :
  H3 (out++[uAa a c]) u p false=some (if bA a (c++[p])=true then out++[uAa a (c++[p])] else out++[uAa a c]++[u]):=by
 unfold H3;have h1:decide ((out++[uAa a c]++[u]).length≤LIM)=true:=decide_eq_true (show _≤4294967296 by simp;omega);have h2:decide ((uAa a c).fWithdraw.length≤LIM)=true:=decide_eq_true (show 0≤4294967296 by omega);have h3:decide ((uAa a c).fAnnounce.length≤LIM)=true:=decide_eq_true (show c.length≤4294967296 by omega);have h4:decide ((0:Int)<((uAa a c).fWithdraw.length:Int))=false:=rfl;have h5:decide (((uAa a c).fAnnounce++[p]).length≤LIM)=true:=decide_eq_true (show(c++[p]).length≤4294967296 by simp;omega);have h6:Q1 (A7.mk (uAa a c).fWithdraw (uAa a c).fAttrs ((uAa a c).fAnnounce++[p]))=some (bA a (c++[p])):=B6r (l:=c++[p]) hs hR (by simp;omega) (by simp);simp only [jn,Bool.not_false,if_true,B8q (show out.length≤100000000 by omega),Option.bind_some,chk,h1,h2,h3,h4,h5,h6,B6t (show out.length≤100000000 by omega),Bool.false_eq_true,if_false];cases bA a (c++[p])<;>rfl
structure gd (c:A1):Prop where
 val:pV c.fPrefix
 rt:c.fHas=true→c.fRoute.fPrefix=c.fPrefix
 att:c.fHas=true→bA c.fRoute.fAttrs [c.fPrefix]=true
structure sc (c:A1):Prop where
 sm:Sm c.fRoute.fAttrs
 ad:aR c.fPrefix.fAddr
structure Chs (l:List A1):Prop where
 sc:∀ c∈l,Go.Proofs.YtplbaenjbihekaaGreatDoor.sc c
 all:∀ c∈l,gd c
 asc:∀ (i:Nat) (h:i+1<l.length),pLt (l[i]'(by omega)).fPrefix l[i+1].fPrefix
 len:l.length≤1000
open Classical in
noncomputable def gdB (c:A1):Bool:=decide (gd c)
theorem A0h {c:A1}:gdB c=true↔gd c:=by unfold gdB;simp
theorem C1d {c:A1} (h:sc c):A5x c=some (gdB c):=by
 refine A54 ?_ A0h;unfold A5x;refine Tot.jnR (fun m=>m=true↔gd c) (fun j hj => ?_) (fun m hm=>Tot.some hm);refine Tot.bindOf (B4k h.ad) ?_;refine Tot.ite (fun e => ?_) (fun e=>hj _ ⟨(fun e=>by cases e),fun hh=>by rw [R8.2 hh.val] at e;cases e⟩);have hv:=R8.1 e;refine Tot.ite (fun e1=>hj _ ⟨fun _=>⟨hv,(fun h=>by rw [h] at e1;cases e1),(fun h=>by rw [h] at e1;cases e1)⟩,fun _=>rfl⟩) (fun e1 => ?_);have hh:c.fHas=true:=by simpa using e1
 refine Tot.ite (fun e2 => ?_) (fun e2=>hj _ ⟨(fun e=>by cases e),fun hc=>absurd ((A28.2 (hc.rt hh)).symm.trans e2) (by simp)⟩);have hp:c.fRoute.fPrefix=c.fPrefix:=A28.1 e2;refine Tot.bindOf (C2y h.sm (by simp)) ?_;refine Tot.bindOf (B8p h.sm (by simpa using h.ad) (by simp) (by simp)) ?_;exact hj _ ⟨fun e=>⟨hv,fun _=>hp,fun _=>e⟩,fun hc=>hc.att hh⟩
theorem B5d {c:A1} (h:sc c):A1n c=some (gdB c):=by
 refine A54 ?_ A0h;unfold A1n;refine Tot.bindOf (B4j h.ad) ?_;refine Tot.ite (fun e=>Tot.some ⟨(fun e=>by cases e),fun hh=>by rw [R8.2 hh.val] at e;cases e⟩) (fun e => ?_);have hv:=R8.1 (show validF c.fPrefix=true by simpa using e);refine Tot.jnR (fun m=>m=true↔gd c) (fun j hj => ?_) (fun m hm=>Tot.some hm);refine Tot.ite (fun e1=>hj _ ⟨fun _=>⟨hv,(fun h=>by rw [h] at e1;cases e1),(fun h=>by rw [h] at e1;cases e1)⟩,fun _=>rfl⟩) (fun e1 => ?_);have hh:c.fHas=true:=by simpa using e1
 refine Tot.ite (fun e2 => ?_) (fun e2=>hj _ ⟨(fun e=>by cases e),fun hc=>absurd ((A28.2 (hc.rt hh)).symm.trans e2) (by simp)⟩);have hp:c.fRoute.fPrefix=c.fPrefix:=A28.1 e2;refine Tot.bindOf (B6r h.sm (l:=[c.fPrefix]) (by simpa using h.ad) (by simp) (by simp)) ?_;exact hj _ ⟨fun e=>⟨hv,fun _=>hp,fun _=>e⟩,fun hc=>hc.att hh⟩
def goneL (l:List A1):List A2:=(l.filter fun c => !c.fHas).map (·.fPrefix)
noncomputable def sel (a:C2) (l:List A1):List A2:=(l.filter fun c=>c.fHas&&aD c.fRoute.fAttrs a).map (·.fPrefix)
open Classical in
/-- attributes in the order in which they come -/
noncomputable def foS (A:List C2) (c:A1):List C2:=if c.fHas=true∧¬ c.fRoute.fAttrs∈A then A++[c.fRoute.fAttrs] else A
noncomputable def FO (l:List A1):List C2:=l.foldl foS []
theorem A6n (l:List A1) (c:A1):FO (l++[c])=foS (FO l) c:=by unfold FO;rw [List.foldl_append];rfl
theorem A7o (l:List A1) (c:A1):goneL (l++[c])=if c.fHas=true then goneL l else goneL l++[c.fPrefix]:=by
 unfold goneL;rw [List.filter_append,List.map_append];cases h:c.fHas<;>simp [h]
theorem B3p (a:C2) (l:List A1) (c:A1):sel a (l++[c])=if (c.fHas&&aD c.fRoute.fAttrs a)=true then sel a l++[c.fPrefix] else sel a l:=by
 unfold sel;rw [List.filter_append,List.map_append];cases h:(c.fHas&&aD c.fRoute.fAttrs a)<;>simp [h]
theorem A4i (l:List A1):(goneL l).length≤l.length:=by unfold goneL;rw [List.length_map];exact List.length_filter_le _ _
theorem A6o (a:C2) (l:List A1):(sel a l).length≤l.length:=by unfold sel;rw [List.length_map];exact List.length_filter_le _ _
theorem B4q {l:List A1} {p:A2} (h:p∈goneL l):∃ c∈l,c.fHas=false∧c.fPrefix=p:=by
 unfold goneL at h;obtain⟨c,hc,rfl⟩:=List.mem_map.1 h;rw [List.mem_filter] at hc;exact⟨c,hc.1,by simpa using hc.2,rfl⟩
theorem B5e {a:C2} {l:List A1} {p:A2} (h:p∈sel a l):∃ c∈l,c.fHas=true∧c.fRoute.fAttrs=a∧c.fPrefix=p:=by
 unfold sel at h;obtain⟨c,hc,rfl⟩:=List.mem_map.1 h;rw [List.mem_filter,Bool.and_eq_true,A91] at hc;exact⟨c,hc.1,hc.2.1,hc.2.2,rfl⟩
theorem B3q:∀ (l:List A1) (a:C2),a∈FO l↔∃ c∈l,c.fHas=true∧c.fRoute.fAttrs=a:=by
 refine A65 (fun a=>by simp [FO]) (fun l c ih a => ?_);rw [A6n];unfold foS;split
 ·rename_i h;rw [List.mem_append,ih a];simp only [List.mem_singleton,List.mem_append];constructor
  ·rintro(⟨x,hx,h1,h2⟩ | rfl)
   ·exact⟨x,.inl hx,h1,h2⟩
   ·exact⟨c,.inr rfl,h.1,rfl⟩
  ·rintro⟨x,hx | rfl,h1,h2⟩
   ·exact .inl ⟨x,hx,h1,h2⟩
   ·exact .inr h2.symm
 ·rename_i h;rw [ih a];constructor
  ·rintro⟨x,hx,h1,h2⟩;exact⟨x,List.mem_append_left _ hx,h1,h2⟩
  ·rintro⟨x,hx,h1,h2⟩;rcases List.mem_append.1 hx with hx | hx
   ·exact⟨x,hx,h1,h2⟩
   ·cases List.mem_singleton.1 hx;refine(ih a).1 ?_;refine Classical.byContradiction fun hn=>h ⟨h1,?_⟩;rw [h2];exact hn
theorem C1e:∀ l:List A1,(FO l).Nodup:=by
 refine A65 (by simp [FO]) (fun l c ih => ?_);rw [A6n];unfold foS;split
 ·rename_i h;rw [List.nodup_append];exact⟨ih,by simp,fun a ha b hb e=>by cases List.mem_singleton.1 hb;subst e;exact h.2 ha⟩
 ·exact ih
theorem B5f (l:List A1):(FO l).length≤l.length:=by
 revert l;refine A65 (by simp [FO]) (fun l c ih => ?_);rw [A6n];unfold foS;split<;>simp<;>omega
theorem B8r {a:C2} {l:List A1} (h:a∉FO l):sel a l=[]:=by
 refine List.eq_nil_iff_forall_not_mem.2 fun p hp => ?_;obtain⟨c,h1,h2,h3,_⟩:=B5e hp;exact h ((B3q l a).2 ⟨c,h1,h2,h3⟩)
noncomputable def GR (l:List A1):List D3:=(FO l).map fun a=>D3.mk a (sel a l)
theorem C2o {A:List C2} {f:C2→List A2} {c:A1} (hA:∀ a∈A,Sm a) (hc:Sm c.fRoute.fAttrs) (hn:A.length≤1000):Tot (T9 (A.map fun a=>D3.mk a (f a)) c) (fun k=>(k = -1∧c.fRoute.fAttrs∉A)∨∃ (i:Nat) (h:i<A.length),k=i∧A[i]=c.fRoute.fAttrs):=by
 unfold T9;refine Tot.bindRng A.length (fun i (_:Unit)=>(i:Int)) (fun i _=>∀ j (h:j<A.length),j<i→A[j]≠c.fRoute.fAttrs) (fun x=>(x = .inr ()∧c.fRoute.fAttrs∉A)∨∃ (i:Nat) (h:i<A.length),x = .inl (i:Int)∧A[i]=c.fRoute.fAttrs) () rfl (fun j _ h=>absurd h (by omega)) (fun i _ hi hI => ?_) (fun _ hI => ?_) (fun x hx => ?_)
 ·unfold O9;refine Tot.iteT (decide_eq_true (by rw [List.length_map];omega)) ?_;refine Tot.bindIdx i rfl (by rw [List.length_map];exact hi) ?_;rw [List.getElem_map];have:A2f (D3.mk A[i] (f A[i])) c=some (aD A[i] c.fRoute.fAttrs):=by
   unfold A2f;exact Q8 (C14 (hA _ (List.getElem_mem hi))) rfl
  refine Tot.bindOf this ?_;refine Tot.ite (fun e=>Tot.stop (.inr ⟨i,hi,rfl,A91.1 e⟩)) (fun e => ?_);refine Tot.step () (C0 hi (by omega)) fun j hj hji => ?_
  by_cases hji':j=i
  ·subst hji';intro e';rw [A91.2 e'] at e;cases e
  ·exact hI j hj (by omega)
 ·unfold O9;refine Tot.iteF (decide_eq_false (by rw [List.length_map];omega)) ?_;refine Tot.last (.inl ⟨rfl,fun hm => ?_⟩);obtain⟨j,hj,e⟩:=List.getElem_of_mem hm;exact hI j hj hj e
 ·rcases hx with ⟨rfl,h⟩ | ⟨i,h,rfl,e⟩
  ·exact Tot.some (.inl ⟨rfl,h⟩)
  ·exact Tot.some (.inr ⟨i,h,rfl,e⟩)
theorem B9y {A:List C2} (hA:A.Nodup) (f:C2→List A2) {i:Nat} (hi:i<A.length) (p:A2) :
  (A.map fun a=>D3.mk a (f a)).set i (D3.mk A[i] (f A[i]++[p]))=A.map fun a=>D3.mk a (if aD A[i] a=true then f a++[p] else f a):=by
 refine List.ext_getElem (by simp) fun k h1 h2 => ?_;rw [List.getElem_set]
 by_cases e:i=k
 ·subst e;rw [if_pos rfl,List.getElem_map,B5a,if_pos rfl]
 ·rw [if_neg e,List.getElem_map,List.getElem_map];have hk:k<A.length:=by simpa using h2
  have:A[i]≠A[k]:=fun e'=>e ((List.getElem_inj hA).1 e');rw [C3m this,if_neg (by simp)]
theorem C3g {l:List A1} {i:Nat} (h:i<(GR l).length):(GR l)[i]=D3.mk ((FO l)[i]'(by simpa [GR] using h)) (sel ((FO l)[i]'(by simpa [GR] using h)) l):=by
 exact List.getElem_map _
noncomputable def packF (l:List A1):List A7:=(chunks bW (goneL l)).map uW++(FO l).flatMap fun a=>(chunks (bA a) (sel a l)).map (uAa a)
section
variable {l:List A1}
theorem scD (h:∀ c∈l,sc c) {a:C2} (ha:a∈FO l):Sm a:=by
 obtain⟨c,hc,h1,rfl⟩:=(B3q l a).1 ha;exact(h c hc).sm
theorem Chs.foD (h:Chs l) {a:C2} (ha:a∈FO l):Sm a:=scD h.sc ha
theorem B6u {k:Nat} {a:C2} (h:a∈FO (l.take k)):a∈FO l:=by
 obtain⟨c,hc,h1,h2⟩:=(B3q _ a).1 h;exact(B3q _ a).2 ⟨c,List.mem_of_mem_take hc,h1,h2⟩
theorem Chs.gR (h:Chs l):∀ p∈goneL l,aR p.fAddr:=fun p hp=>by
 obtain⟨c,hc,_,rfl⟩:=B4q hp;exact(h.sc c hc).ad
theorem Chs.sR (h:Chs l) {a:C2}:∀ p∈sel a l,aR p.fAddr:=fun p hp=>by
 obtain⟨c,hc,_,_,rfl⟩:=B5e hp;exact(h.sc c hc).ad
theorem B0i {α β:Type} (f:α→List β):∀ (A:List α) (n:Nat),(∀ a∈A,(f a).length≤n)→(A.flatMap f).length≤n*A.length
 | [],n,_=>by simp
 | a :: A,n,h=>by
  have:=B0i f A n fun b hb=>h b (List.mem_cons_of_mem _ hb);have:=h a (List.mem_cons_self ..);rw [List.flatMap_cons,List.length_append,List.length_cons,Nat.mul_succ];omega
structure ok (l:List A1):Prop where
 all:∀ c∈l,gd c
 asc:∀ (i:Nat) (h:i+1<l.length),pLt (l[i]'(by omega)).fPrefix l[i+1].fPrefix
structure okT (l:List A1) (i:Nat):Prop where
 all:∀ (j:Nat) (h:j<l.length),j<i→gd l[j]
 asc:∀ (j:Nat) (h:j+1<l.length),j+1<i→pLt (l[j]'(by omega)).fPrefix l[j+1].fPrefix
theorem okT.full (h:okT l l.length):ok l:=⟨fun c hc=>by
 obtain⟨i,hi,rfl⟩:=List.getElem_of_mem hc;exact h.all i hi hi,fun i hi=>h.asc i hi hi⟩
theorem okT.zero:okT l 0:=⟨fun _ _ h=>absurd h (by omega),fun _ _ h=>absurd h (by omega)⟩
theorem okT.succ {i:Nat} (h:okT l i) (hi:i<l.length) (hg:gd l[i]) (ha:∀ (k:Nat) (hk:k+1<l.length),k+1=i→pLt (l[k]'(by omega)).fPrefix l[k+1].fPrefix):okT l (i+1) :=
 ⟨fun j hj hji=>by
  by_cases e:j=i
  ·subst e;exact hg
  ·exact h.all j hj (by omega),fun j hj hji=>by
  by_cases e:j+1=i
  ·exact ha j hj e
  ·exact h.asc j hj (by omega)⟩
theorem ok.chs (h:ok l) (hS:∀ c∈l,sc c) (hlen:l.length≤1000):Chs l:=⟨hS,h.all,h.asc,hlen⟩
theorem B7x (hS:∀ c∈l,sc c) (hlen:l.length≤1000):Tot (loop (A21 l) ((0:Int),([]:List D3),([]:List A2))) (fun x=>(x = .inr (GR l,goneL l)∧ok l)∨(x = .inl ()∧¬ ok l)):=by
 refine Tot.rng l.length (fun i (_:Unit)=>((i:Int),GR (l.take i),goneL (l.take i))) (fun i _=>okT l i) _ () rfl okT.zero (fun i _ hi hI => ?_) (fun _ hI => ?_)
 ·unfold A21;refine Tot.iteT (decide_eq_true (by simp only;omega)) ?_;have hci:l[i]∈l:=List.getElem_mem hi;have hsc:=hS _ hci;have hsn:l.take (i+1)=l.take i++[l[i]]:=F5 hi;refine Tot.jnR (fun m=>m=(GR (l.take (i+1)),goneL (l.take (i+1)))∧okT l (i+1)) (fun j hj => ?_) (fun m hm=>Tot.step () (by rw [hm.1,C0 hi (by omega)]) hm.2);refine Tot.bindIdx i rfl hi ?_;refine Tot.jnR (fun m=>(m=true→¬ ok l)∧(m=false→okT l (i+1))) (fun j2 hj2 => ?_) (fun m hm => ?_)
  ·refine Tot.bindOf (C1d hsc) ?_;refine Tot.ite (fun e=>hj2 _ ⟨fun _ ho => ?_,fun e=>by cases e⟩) (fun e => ?_)
   ·rw [A0h.2 (ho.all _ hci)] at e;cases e
   have hgd:gd l[i]:=A0h.1 (by simpa using e);refine Tot.ite (fun e => ?_) (fun e=>hj2 _ ⟨(fun e=>by cases e),fun _=>hI.succ hi hgd fun k hk hki => ?_⟩)
   ·have hi0:0<i:=by have:=of_decide_eq_true e;simp only at this;omega
    obtain⟨k,rfl⟩:∃ k,i=k+1:=⟨i-1,by omega⟩;refine Tot.bindIdx k (S8 (n:=l.length) (by omega) (by omega)) (by omega) ?_;refine Tot.bindOf (B8k (hS _ (List.getElem_mem (by omega))).ad hsc.ad) ?_;have hlt:=B59 (l[k]'(by omega)).fPrefix l[k+1].fPrefix;refine hj2 _ ⟨fun e ho => ?_,fun e=>hI.succ hi hgd fun k' hk' e' => ?_⟩
    ·have h1:=hlt.2 (ho.asc k hi);have h2:=of_decide_eq_true e;omega
    ·obtain rfl:k'=k:=by omega
     refine hlt.1 ?_;have h2:=of_decide_eq_false e;omega
   ·have:=of_decide_eq_false e;simp only at this;omega
  ·refine Tot.ite (fun e=>Tot.stop (.inr ⟨rfl,hm.1 e⟩)) (fun e => ?_);have hok:=hm.2 e;cases hh:l[i].fHas with
   | false =>
    refine Tot.iteT rfl ?_;have hgl:=A4i (l.take i);refine Tot.chk (limB (by simp at hgl ⊢;omega)) ?_;refine hj _ ⟨?_,hok⟩;rw [hsn,A7o,hh,if_neg (by simp)];have:GR (l.take i++[l[i]])=GR (l.take i):=by
     unfold GR;rw [A6n,foS,hh,if_neg (by simp)];refine List.map_congr_left fun a _ => ?_;rw [B3p,hh,Bool.false_and,if_neg (by simp)]
    rw [this]
   | true =>
    refine Tot.iteF rfl ?_;have hD:=hsc.sm;have hAl:=B5f (l.take i);have hAl':(FO (l.take i)).length≤1000:=by simp at hAl;omega
    refine Tot.bindT (C2o (A:=FO (l.take i)) (f:=fun a=>sel a (l.take i)) (c:=l[i]) (fun a ha=>scD hS (B6u ha)) hD hAl') fun k hk => ?_
    -- the groups with one that holds the attributes
    refine Tot.jnR (fun m=>∃ (q:Nat) (hq:q<(FO (l.take (i+1))).length),m=((q:Int),(FO (l.take (i+1))).map fun a=>D3.mk a (sel a (l.take i)))∧(FO (l.take (i+1)))[q]=l[i].fRoute.fAttrs) (fun j3 hj3 => ?_) (fun m hm => ?_)
    ·rcases hk with ⟨rfl,hk⟩ | ⟨q,hq,rfl,hk⟩
     ·refine Tot.iteT (by decide) ?_;refine Tot.chk (limB (by simp [GR];omega)) ?_;have hF:FO (l.take (i+1))=FO (l.take i)++[l[i].fRoute.fAttrs]:=by rw [hsn,A6n,foS,if_pos ⟨hh,hk⟩]
      refine hj3 _ ⟨(FO (l.take i)).length,by rw [hF];simp,?_,by simp [hF]⟩;rw [hF,List.map_append];simp only [GR,List.length_map,List.map_cons,List.map_nil];rw [B8r hk]
     ·refine Tot.iteF (decide_eq_false (by omega)) ?_;have hF:FO (l.take (i+1))=FO (l.take i):=by
       rw [hsn,A6n,foS,if_neg];rintro⟨_,hn⟩;exact hn (hk ▸ List.getElem_mem hq)
      refine hj3 _ ⟨q,by rw [hF];exact hq,?_,by simp only [hF];exact hk⟩;rw [hF];rfl
    ·obtain⟨q,hq,rfl,hk⟩:=hm;have hq':q<((FO (l.take (i+1))).map fun a=>D3.mk a (sel a (l.take i))).length:=by rw [List.length_map];exact hq
     have hsl:=A6o l[i].fRoute.fAttrs (l.take i);refine Tot.bindIdx q rfl hq' ?_;refine Tot.bindIdx q rfl hq' ?_;refine Tot.chk (limB (by rw [List.getElem_map,hk];simp at hsl ⊢;omega)) ?_;refine Tot.bindIdx q rfl hq' ?_;refine Tot.bindIdx q rfl hq' ?_;refine hj _ ⟨?_,hok⟩;have e1:goneL (l.take (i+1))=goneL (l.take i):=by rw [hsn,A7o,hh,if_pos rfl]
     rw [e1];refine Prod.ext ?_ rfl;have e2:=B9y (C1e (l.take (i+1))) (fun a=>sel a (l.take i)) hq l[i].fPrefix;simp only [Int.toNat_natCast,List.getElem_map];refine e2.trans ?_;unfold GR;refine List.map_congr_left fun a _ => ?_
     conv=>rhs;rw [hsn,B3p,hh,Bool.true_and]
     rw [hk]
 ·unfold A21;refine Tot.iteF (decide_eq_false (by simp only;omega)) ?_;refine Tot.last (.inl ⟨?_,hI.full⟩);rw [List.take_of_length_le (Nat.le_refl _)]
open Classical in
/-- what is packed, or the error -/
noncomputable def PF (l:List A1):List A7×Int:=if ok l then (packF l,0) else ([],1)
theorem B8s (hS:∀ c∈l,sc c) (hlen:l.length≤1000):A5p l=some (PF l):=by
 refine Tot.eq ?_;unfold A5p;refine Tot.bindT (B7x hS hlen) fun x hx => ?_;rcases hx with ⟨rfl,ho⟩ | ⟨rfl,ho⟩
 case inr=>exact Tot.some (by rw [PF,if_neg ho])
 have h:=ho.chs hS hlen;have hF:PF l=(packF l,0):=by rw [PF,if_pos ho]
 rw [hF];refine Tot.bindOf (filledW h.gR (Nat.le_trans (A4i l) (by omega))) ?_;have hFl:=B5f l;have hGl:(GR l).length=(FO l).length:=by unfold GR;rw [List.length_map]
 have hcl:=A32 bW (goneL l);have hgl:=A4i l;refine Tot.bindRng (FO l).length (fun i (_:Unit)=>((i:Int),(chunks bW (goneL l)).map uW++((FO l).take i).flatMap fun a=>(chunks (bA a) (sel a l)).map (uAa a))) (fun _ _=>True) (fun r=>r=packF l) () (by simp) trivial (fun i _ hi _ => ?_) (fun _ _ => ?_) (fun x hx=>Tot.some (by rw [hx]))
 ·unfold A3u;refine Tot.iteT (decide_eq_true (by show(i:Int)<((GR l).length:Int);omega)) ?_;refine Tot.bindIdx i rfl (show i<(GR l).length by omega) ?_;show Tot ((A02 (GR l)[i] true).bind _) _;rw [C3g (by omega)];refine Tot.bindOf (filledA (h.foD (List.getElem_mem hi)) h.sR (Nat.le_trans (A6o _ l) (by omega))) ?_;have hsn:(FO l).take (i+1)=(FO l).take i++[(FO l)[i]]:=F5 hi;have h1:=A32 (bA (FO l)[i]) (sel (FO l)[i] l);have h2:=A6o (FO l)[i] l;have h3:(((FO l).take i).flatMap fun a=>(chunks (bA a) (sel a l)).map (uAa a)).length≤1000*((FO l).take i).length:=B0i _ _ _ fun a _=>by
   have:=A32 (bA a) (sel a l);have:=A6o a l;rw [List.length_map];omega
  have h4:((FO l).take i).length≤1000:=by rw [List.length_take];omega
  refine Tot.chk (limB (by simp only [List.length_append,List.length_map];omega)) ?_;refine Tot.step () ?_ trivial;rw [hsn,List.flatMap_append];refine Prod.ext (C0 hi (by omega)) (by simp)
 ·unfold A3u;refine Tot.iteF (decide_eq_false (by show ¬ (((FO l).length:Nat):Int)<((GR l).length:Int);omega)) ?_;refine Tot.last ?_;rw [List.take_of_length_le (Nat.le_refl _)];rfl
end
def Beg (V:List A2→Bool) (msg:List A2→A7) (pre:List A7) (S:List A2) (out:List A7):Prop :=
 (S=[]∧out=pre)∨(S≠[]∧∃ cs cur,out=pre++cs.map msg++[msg cur]∧cur≠[]∧cur.length+cs.length≤S.length∧(∀ p∈cur,p∈S)∧∀ l',chunks V (S++l')=cs++ck V cur l')
theorem Beg.done {V:List A2→Bool} {msg:List A2→A7} {pre:List A7} {S:List A2} {out:List A7} (h:Beg V msg pre S out):out=pre++(chunks V S).map msg:=by
 rcases h with ⟨rfl,rfl⟩ | ⟨_,cs,cur,rfl,_,_,_,h⟩
 ·simp [chunks]
 ·have:=h [];rw [List.append_nil] at this;rw [this];simp [ck]
theorem Beg.new {V:List A2→Bool} {msg:List A2→A7} {pre:List A7} {p:A2}:Beg V msg pre [p] (pre++[msg [p]]) :=
 .inr ⟨by simp,[],[p],by simp,by simp,by simp,by simp,fun l'=>by simp [chunks]⟩
theorem Beg.more {V:List A2→Bool} {msg:List A2→A7} {pre:List A7} {S:List A2} {cs:List (List A2)} {cur:List A2} {p:A2} {out:List A7}
  (h0:cur≠[]) (hlen:cur.length+cs.length≤S.length) (hm:∀ p∈cur,p∈S) (hc:∀ l',chunks V (S++l')=cs++ck V cur l')
  (ho:out=if V (cur++[p])=true then pre++cs.map msg++[msg (cur++[p])] else pre++cs.map msg++[msg cur]++[msg [p]]):Beg V msg pre (S++[p]) out:=by
 right;refine⟨by simp,?_⟩
 by_cases hv:V (cur++[p])=true
 ·rw [if_pos hv] at ho;refine⟨cs,cur++[p],ho,by simp,by simp;omega,?_,fun l' => ?_⟩
  ·intro q hq;rcases List.mem_append.1 hq with hq | hq
   ·exact List.mem_append_left _ (hm q hq)
   ·exact List.mem_append_right _ hq
  ·rw [List.append_assoc,hc];show cs++ck V cur (p :: l')=_;rw [C2x hv]
 ·rw [if_neg hv] at ho;have:=List.length_pos_iff.2 h0;refine⟨cs++[cur],[p],by rw [ho];simp,by simp,by simp;omega,?_,fun l' => ?_⟩
  ·intro q hq;exact List.mem_append_right _ hq
  ·rw [List.append_assoc,hc];show cs++ck V cur (p :: l')=_;simp only [ck];rw [if_neg hv];simp
section
variable {l:List A1}
theorem B6v (hS:∀ c∈l,sc c) (hlen:l.length≤1000):Tot (loop (Z5 l) (0:Int)) (fun x=>(x = .inr ()∧ok l)∨(x = .inl ()∧¬ ok l)):=by
 refine Tot.rng l.length (fun i (_:Unit)=>(i:Int)) (fun i _=>okT l i) _ () rfl okT.zero (fun i _ hi hI => ?_) (fun _ hI => ?_)
 ·unfold Z5;refine Tot.iteT (decide_eq_true (show(i:Int)<(l.length:Int) by omega)) ?_;have hci:l[i]∈l:=List.getElem_mem hi;have hsc:=hS _ hci;refine Tot.bindIdx i rfl hi ?_;refine Tot.jnR (fun m=>(m=true→¬ ok l)∧(m=false→okT l (i+1))) (fun j2 hj2 => ?_) (fun m hm => ?_)
  ·refine Tot.bindOf (B5d hsc) ?_;refine Tot.ite (fun e=>hj2 _ ⟨fun _ ho => ?_,fun e=>by cases e⟩) (fun e => ?_)
   ·rw [A0h.2 (ho.all _ hci)] at e;cases e
   have hgd:gd l[i]:=A0h.1 (by simpa using e);refine Tot.ite (fun e => ?_) (fun e=>hj2 _ ⟨(fun e=>by cases e),fun _=>hI.succ hi hgd fun k hk hki => ?_⟩)
   ·have hi0:0<i:=by have:=of_decide_eq_true e;omega
    obtain⟨k,rfl⟩:∃ k,i=k+1:=⟨i-1,by omega⟩;refine Tot.bindIdx k (S8 (n:=l.length) (by omega) (by omega)) (by omega) ?_;refine Tot.bindOf (B3i (hS _ (List.getElem_mem (by omega))).ad hsc.ad) ?_;have hlt:=B59 (l[k]'(by omega)).fPrefix l[k+1].fPrefix;refine hj2 _ ⟨fun e ho => ?_,fun e=>hI.succ hi hgd fun k' hk' e' => ?_⟩
    ·have h1:=hlt.2 (ho.asc k hi);have h2:=of_decide_eq_true e;omega
    ·obtain rfl:k'=k:=by omega
     refine hlt.1 ?_;have h2:=of_decide_eq_false e;omega
   ·have:=of_decide_eq_false e;omega
  ·refine Tot.ite (fun e=>Tot.stop (.inr ⟨rfl,hm.1 e⟩)) (fun e => ?_);exact Tot.step () (C0 hi (by omega)) (hm.2 e)
 ·unfold Z5;refine Tot.iteF (decide_eq_false (show ¬ (l.length:Int)<(l.length:Int) by omega)) ?_;exact Tot.last (.inl ⟨rfl,hI.full⟩)
theorem C3o {S:List A2} {out:List A7} {p:A2} (h:Beg bW uW [] S out) (hS:S.length≤1000) (hR:∀ q∈S++[p],aR q.fAddr) :
  Tot (H3 out (uW [p]) p ((out.length:Int)==(0:Int))) (fun r=>Beg bW uW [] (S++[p]) r):=by
 rcases h with ⟨rfl,rfl⟩ | ⟨h0,cs,cur,rfl,h1,h2,h3,h4⟩
 ·have:=B6s (out:=[]) (u:=uW [p]) (p:=p) (by simp);exact Tot.of this (by simpa using Beg.new (V:=bW) (msg:=uW) (pre:=[]) (p:=p))
 ·have e:(((([]:List A7)++cs.map uW++[uW cur]).length:Int)==0)=false:=by
   rw [beq_eq_false_iff_ne];simp;omega
  rw [e];refine Tot.of (moreW (out:=[]++cs.map uW) (c:=cur) (by simp;omega) h1 (by omega) fun q hq=>hR q ?_) ?_
  ·rcases List.mem_append.1 hq with hq | hq
   ·exact List.mem_append_left _ (h3 q hq)
   ·exact List.mem_append_right _ hq
  ·exact Beg.more h1 h2 h3 h4 rfl
theorem B7y (h:Chs l):Tot (loop (Z6 l) ((0:Int),([]:List A7))) (fun x=>x=(chunks bW (goneL l)).map uW):=by
 have hlen:=h.len;refine Tot.rng l.length (fun i (out:List A7)=>((i:Int),out)) (fun i out=>Beg bW uW [] (goneL (l.take i)) out) _ [] rfl (.inl ⟨by simp [goneL],rfl⟩) (fun i out hi hI => ?_) (fun out hI => ?_)
 ·unfold Z6;refine Tot.iteT (decide_eq_true (show(i:Int)<(l.length:Int) by omega)) ?_;have hci:l[i]∈l:=List.getElem_mem hi;have hgd:=h.sc _ hci;have hsn:l.take (i+1)=l.take i++[l[i]]:=F5 hi;refine Tot.bindIdx i rfl hi ?_;refine Tot.jnR (fun m=>Beg bW uW [] (goneL (l.take (i+1))) m) (fun j hj => ?_) (fun m hm=>Tot.step m (by rw [C0 hi (by omega)]) hm);cases hh:l[i].fHas with
  | false =>
   refine Tot.iteT rfl ?_;refine Tot.bindOf B0u ?_;have hgl:=A4i (l.take i);refine Tot.bindT (C3o (S:=goneL (l.take i)) (p:=l[i].fPrefix) hI (by simp at hgl;omega) fun q hq => ?_) fun r hr=>hj _ ?_
   ·rcases List.mem_append.1 hq with hq | hq
    ·obtain⟨c,hc,_,rfl⟩:=B4q hq;exact(h.sc c (List.mem_of_mem_take hc)).ad
    ·rw [List.mem_singleton.1 hq];exact hgd.ad
   ·rw [hsn,A7o,hh,if_neg (by simp)];exact hr
  | true =>
   refine Tot.iteF rfl ?_;refine hj _ ?_;rw [hsn,A7o,hh,if_pos rfl];exact hI
 ·unfold Z6;refine Tot.iteF (decide_eq_false (show ¬ (l.length:Int)<(l.length:Int) by omega)) ?_;refine Tot.last ?_;rw [List.take_of_length_le (Nat.le_refl _)] at hI;simpa using hI.done
theorem C3p {a:C2} (ha:Sm a) {pre:List A7} {S:List A2} {out:List A7} {p:A2} (h:Beg (bA a) (uAa a) pre S out) (hp:pre.length≤80000000) (hS:S.length≤1000) (hR:∀ q∈S++[p],aR q.fAddr) {b:Bool} (hb:b=true↔S=[]) :
  Tot (H3 out (uAa a [p]) p b) (fun r=>Beg (bA a) (uAa a) pre (S++[p]) r):=by
 rcases h with ⟨rfl,rfl⟩ | ⟨h0,cs,cur,rfl,h1,h2,h3,h4⟩
 ·rw [hb.2 rfl];have:=B6s (out:=out) (u:=uAa a [p]) (p:=p) (by omega);exact Tot.of this Beg.new
 ·have e:b=false:=by
   rw [Bool.eq_false_iff];exact fun e=>h0 (hb.1 e)
  rw [e];refine Tot.of (moreA ha (out:=pre++cs.map (uAa a)) (c:=cur) (by simp;omega) (by omega) fun q hq=>hR q ?_) ?_
  ·rcases List.mem_append.1 hq with hq | hq
   ·exact List.mem_append_left _ (h3 q hq)
   ·exact List.mem_append_right _ hq
  ·exact Beg.more h1 h2 h3 h4 rfl
def Dn (l:List A1) (A:List C2) (d:List Bool):Prop:=d.length=l.length∧∀ (k:Nat) (h:k<l.length) (h':k<d.length),l[k].fHas=true→(d[k]=true↔l[k].fRoute.fAttrs∈A)
theorem C1f (h:Chs l) {i:Nat} (hi:i<l.length) (hh:l[i].fHas=true) (hA:l[i].fRoute.fAttrs∉FO (l.take i)) {d:List Bool} (hd:Dn l (FO (l.take i)) d) {pre:List A7} (hp:pre.length≤80000000) :
  Tot (loop (Z7 l l[i]) (true,(i:Int),d,pre)) (fun r=>Dn l (FO (l.take (i+1))) r.1∧r.2=pre++(chunks (bA l[i].fRoute.fAttrs) (sel l[i].fRoute.fAttrs l)).map (uAa l[i].fRoute.fAttrs)):=by
 have hlen:=h.len;have hD:=(h.sc _ (List.getElem_mem hi)).sm;have hsi:sel l[i].fRoute.fAttrs (l.take i)=[]:=B8r hA;refine Tot.rng (β:=Bool×List Bool×List A7) (l.length-i) (fun k b=>(b.1,((i+k:Nat):Int),b.2.1,b.2.2)) (fun k b=>(b.1=true↔sel l[i].fRoute.fAttrs (l.take (i+k))=[])∧Beg (bA l[i].fRoute.fAttrs) (uAa l[i].fRoute.fAttrs) pre (sel l[i].fRoute.fAttrs (l.take (i+k))) b.2.2∧b.2.1.length=l.length ∧
  (∀ (q:Nat) (hq:q<l.length) (hq':q<b.2.1.length),l[q].fHas=true→(b.2.1[q]=true↔l[q].fRoute.fAttrs∈FO (l.take i)∨(q<i+k∧l[q].fRoute.fAttrs=l[i].fRoute.fAttrs)))) _ (true,d,pre) rfl ?_ (fun k b hk hI => ?_) (fun b hI => ?_)
 ·refine⟨by simp [hsi],.inl ⟨by simpa using hsi,rfl⟩,hd.1,fun q hq hq' hc => ?_⟩;rw [hd.2 q hq hq' hc];constructor
  ·intro e;exact .inl e
  ·rintro(e | ⟨e1,e2⟩)
   ·exact e
   ·exfalso;have hm:l[q]∈l.take i:=by
     rw [List.mem_take_iff_getElem];exact⟨q,by omega,rfl⟩
    exact hA ((B3q _ _).2 ⟨l[q],hm,hc,e2⟩)
 ·obtain⟨b1,b2,b3⟩:=b;obtain⟨h1,h2,h3,h4⟩:=hI;simp only at h1 h2 h3 h4;have hj:i+k<l.length:=by omega
  have hsn:l.take (i+(k+1))=l.take (i+k)++[l[i+k]]:=F5 hj;unfold Z7;refine Tot.iteT (decide_eq_true (by simp only;omega)) ?_;refine Tot.bindIdx (i+k) rfl hj ?_;refine Tot.jnR (fun m=>m=(l[i+k].fHas&&aD l[i+k].fRoute.fAttrs l[i].fRoute.fAttrs)) (fun j hjj => ?_) (fun m hm => ?_)
  ·cases hc:l[i+k].fHas with
   | true =>
    refine Tot.iteT rfl ?_;refine Tot.bindOf (B2b (h.sc _ (List.getElem_mem hj)).sm hD) ?_;exact hjj _ (by rw [hc];rfl)
   | false =>
    refine Tot.iteF rfl ?_;exact hjj _ (by rw [hc];rfl)
  ·subst hm;have hw:w64 (((i+k:Nat):Int)+1)=((i+(k+1):Nat):Int):=C0 hj (by omega);have hss:=B3p l[i].fRoute.fAttrs (l.take (i+k)) l[i+k];have hsl:=A6o l[i].fRoute.fAttrs (l.take (i+k));refine Tot.jnR (fun m=>(m.1=true↔sel l[i].fRoute.fAttrs (l.take (i+(k+1)))=[])∧Beg (bA l[i].fRoute.fAttrs) (uAa l[i].fRoute.fAttrs) pre (sel l[i].fRoute.fAttrs (l.take (i+(k+1)))) m.2.2∧m.2.1.length=l.length ∧
    (∀ (q:Nat) (hq:q<l.length) (hq':q<m.2.1.length),l[q].fHas=true→(m.2.1[q]=true↔l[q].fRoute.fAttrs∈FO (l.take i)∨(q<i+(k+1)∧l[q].fRoute.fAttrs=l[i].fRoute.fAttrs)))) (fun j2 hj2 => ?_) (fun m hm=>Tot.step m (by rw [hw]) hm)
   cases he:(l[i+k].fHas&&aD l[i+k].fRoute.fAttrs l[i].fRoute.fAttrs) with
   | true =>
    rw [he,if_pos rfl] at hss;rw [Bool.and_eq_true,A91] at he;refine Tot.iteT rfl ?_;refine Tot.bindOf (B5b (h.sc _ (List.getElem_mem hj)).sm) ?_;have hb:=C3p hD (p:=l[i+k].fPrefix) h2 hp (by simp at hsl;omega) (fun q hq=>by
     rcases List.mem_append.1 hq with hq | hq
     ·obtain⟨c,hc,_,_,rfl⟩:=B5e hq;exact(h.sc c (List.mem_of_mem_take hc)).ad
     ·rw [List.mem_singleton.1 hq];exact(h.sc _ (List.getElem_mem hj)).ad) h1
    rw [he.2];refine Tot.bindT hb fun r hr => ?_;refine Tot.bindIdx (i+k) rfl (show i+k<b2.length by omega) ?_;refine Tot.bindIdx (i+k) rfl (show i+k<b2.length by omega) ?_;refine hj2 _ ⟨?_,?_,by simpa using h3,fun q hq hq' hc => ?_⟩
    ·rw [hsn,hss];simp
    ·rw [hsn,hss];exact hr
    ·simp only [Int.toNat_natCast];rw [List.getElem_set]
     by_cases eq:i+k=q
     ·subst eq;rw [if_pos rfl];simp [he.2]
     ·rw [if_neg eq,h4 q hq (by omega) hc];constructor
      ·rintro(e | ⟨e1,e2⟩)
       ·exact .inl e
       ·exact .inr ⟨by omega,e2⟩
      ·rintro(e | ⟨e1,e2⟩)
       ·exact .inl e
       ·exact .inr ⟨by omega,e2⟩
   | false =>
    rw [he,if_neg (by simp)] at hss;refine Tot.iteF rfl ?_;refine hj2 _ ⟨?_,?_,h3,fun q hq hq' hc => ?_⟩
    ·rw [hsn,hss];exact h1
    ·rw [hsn,hss];exact h2
    ·rw [h4 q hq hq' hc];constructor
     ·rintro(e | ⟨e1,e2⟩)
      ·exact .inl e
      ·exact .inr ⟨by omega,e2⟩
     ·rintro(e | ⟨e1,e2⟩)
      ·exact .inl e
      ·refine .inr ⟨?_,e2⟩
       by_cases eq:i+k=q
       ·subst eq;rw [hc,Bool.true_and,A91.2 e2] at he;cases he
       ·omega
 ·obtain⟨b1,b2,b3⟩:=b;obtain⟨h1,h2,h3,h4⟩:=hI;simp only at h1 h2 h3 h4;have hil:i+(l.length-i)=l.length:=by omega
  rw [hil] at h1 h2 h4;unfold Z7;refine Tot.iteF (decide_eq_false (by simp only;omega)) ?_;refine Tot.last ⟨⟨h3,fun q hq hq' hc => ?_⟩,?_⟩
  ·rw [h4 q hq hq' hc,F5 hi,A6n,foS,if_pos ⟨hh,hA⟩];simp [hq]
  ·rw [List.take_of_length_le (Nat.le_refl _)] at h2;exact h2.done
theorem C1g (hS:∀ c∈l,sc c) (hlen:l.length≤1000):A52 l=some (PF l):=by
 refine Tot.eq ?_;unfold A52;refine Tot.bindT (B6v hS hlen) fun x hx => ?_;rcases hx with ⟨rfl,ho⟩ | ⟨rfl,ho⟩
 case inr=>exact Tot.some (by rw [PF,if_neg ho])
 have h:=ho.chs hS hlen;have hPF:PF l=(packF l,0):=by rw [PF,if_pos ho]
 rw [hPF];refine Tot.bindT (B7y h) fun p hp => ?_;subst hp;refine Tot.chk ?_ ?_
 ·have:(LIM:Int)=4294967296:=rfl;simp only [Bool.and_eq_true,decide_eq_true_eq];omega
 have hcl:=A32 bW (goneL l);have hgl:=A4i l;refine Tot.bindRng (β:=List Bool) l.length (fun i d=>((i:Int),d,(chunks bW (goneL l)).map uW++(FO (l.take i)).flatMap fun a=>(chunks (bA a) (sel a l)).map (uAa a))) (fun i d=>Dn l (FO (l.take i)) d) (fun r=>r=packF l) (List.replicate (l.length:Int).toNat false) (by simp [FO]) ?_ (fun i d hi hI => ?_) (fun d hI => ?_) (fun x hx=>Tot.some (by rw [hx]))
 ·refine⟨by simp,fun k hk hk' hc => ?_⟩;simp [FO]
 ·unfold A1r;refine Tot.iteT (decide_eq_true (by simp only;omega)) ?_;have hsn:l.take (i+1)=l.take i++[l[i]]:=F5 hi;have hF:=A6n (l.take i) l[i];refine Tot.jnR (fun m=>Dn l (FO (l.take (i+1))) m.1∧m.2=(chunks bW (goneL l)).map uW++(FO (l.take (i+1))).flatMap fun a=>(chunks (bA a) (sel a l)).map (uAa a)) (fun j hj => ?_) (fun m hm=>Tot.step m.1 (by rw [C0 hi (by omega),hm.2]) hm.1);refine Tot.bindIdx i rfl hi ?_;refine Tot.jnR (fun m=>m=false↔(l[i].fHas=true∧l[i].fRoute.fAttrs∉FO (l.take i))) (fun j2 hj2 => ?_) (fun m hm => ?_)
  ·cases hh:l[i].fHas with
   | false =>
    refine Tot.iteT rfl ?_;exact hj2 _ (by simp [hh])
   | true =>
    refine Tot.iteF rfl ?_;refine Tot.bindIdx i rfl (by rw [hI.1];exact hi) ?_;refine Tot.bindIdx i rfl (by rw [hI.1];exact hi) ?_;refine hj2 _ ?_;rw [← hI.2 i hi (by rw [hI.1];exact hi) hh];simp [hh]
  ·cases m with
   | true =>
    refine Tot.iteT rfl ?_;have hF':FO (l.take (i+1))=FO (l.take i):=by
     rw [hsn,hF,foS,if_neg];intro e;have:=hm.2 e;cases this
    refine hj _ ?_;rw [hF'];exact⟨hI,rfl⟩
   | false =>
    refine Tot.iteF rfl ?_;obtain⟨hh,hA⟩:=hm.1 rfl;have hF':FO (l.take (i+1))=FO (l.take i)++[l[i].fRoute.fAttrs]:=by
     rw [hsn,hF,foS,if_pos ⟨hh,hA⟩]
    have hfl:=B5f (l.take i);have h3:((FO (l.take i)).flatMap fun a=>(chunks (bA a) (sel a l)).map (uAa a)).length≤1000*(FO (l.take i)).length:=B0i _ _ _ fun a _=>by
     have:=A32 (bA a) (sel a l);have:=A6o a l;rw [List.length_map];omega
    have h4:(FO (l.take i)).length≤1000:=by rw [List.length_take] at hfl;omega
    refine Tot.bindT (C1f h hi hh hA hI (by rw [List.length_append,List.length_map];omega)) fun r hr=>hj _ ⟨hr.1,?_⟩;rw [hr.2,hF',List.flatMap_append];simp
 ·unfold A1r;refine Tot.iteF (decide_eq_false (by simp only;omega)) ?_;refine Tot.last ?_;rw [List.take_of_length_le (Nat.le_refl _)];rfl
end
end Go.Proofs.YtplbaenjbihekaaGreatDoor
