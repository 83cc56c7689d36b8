/- Sets of addresses and numbers: contents, prefixes, differences, cuts, what is valid, in plain Lean. -/
import Derived.Test.YtgfoabcickjphaaGreatDoorPureO
namespace Go.Proofs.YtgfoabcickjphaaGreatDoor
open Go Go.Vc
def inP (x:aRange) (p:aPrefix):Prop:=rk x.fFrom≤rk p.fAddr∧rk (LastF p)≤rk x.fTo
def HasF (l:List aRange) (p:aPrefix):Prop:=∃ x∈l,inP x p
theorem take_ex {α:Type} {l:List α} {k:Nat} (hk:k<l.length) {P:α→Prop} (h:¬ ∃ x∈l.take k,P x) (h2:¬ P l[k]):¬ ∃ x∈l.take (k+1),P x:=by
 rintro⟨x,hx,hp⟩
 rw [take_snoc hk] at hx
 rcases List.mem_append.1 hx with hx | hx
 ·exact h ⟨x,hx,hp⟩
 ·rw [List.mem_singleton.1 hx] at hp;exact h2 hp
theorem has_eq {r:aResources} (hr:AVr r.fAddrs) (hl:r.fAddrs.length≤1000000) {p:aPrefix} (hp:pV p):Tot (resource_HasPrefix r p) (fun b=>b=true↔HasF r.fAddrs p):=by
 unfold resource_HasPrefix slices_ContainsFunc_4 slices_IndexFunc_4
 refine Tot.bindT (P':=fun b:Bool=>b=true↔HasF r.fAddrs p) (Tot.bindT (P':=fun i:Int=>(0≤i∧HasF r.fAddrs p)∨(i = -1∧¬ HasF r.fAddrs p)) ?_ fun i hi=>Tot.some ?_) fun b hb=>Tot.some hb
 ·refine Tot.bindRng r.fAddrs.length (fun k (_:Unit)=>((k:Nat):Int)) (fun k _=>¬ HasF (r.fAddrs.take k) p) (fun x=>match x with | .inl i=>0≤i∧HasF r.fAddrs p | .inr _=>¬ HasF r.fAddrs p) () rfl (by rintro⟨x,hx,_⟩;simp at hx) (fun k b hk hb => ?_) (fun b hb => ?_) (fun x hx => ?_)
  ·unfold slices_IndexFunc_4_L0
   have hw:w64 ((k:Int)+1)=((k+1:Nat):Int):=by rw [w64_id (by omega) (by omega)];rfl
   have hx:=hr _ (List.getElem_mem hk)
   refine Tot.iteT (by simpa using hk) (Tot.bindIdx k rfl hk (Tot.bindT (P':=fun b:Bool=>b=true↔inP r.fAddrs[k] p) ?_ fun b hb2=>Tot.ite (fun h=>Tot.stop ⟨by omega,⟨_,List.getElem_mem hk,hb2.1 h⟩⟩) (fun h=>Tot.step () (by rw [hw]) (take_ex hk hb fun e=>by rw [hb2.2 e] at h;cases h))))
   unfold resource_HasPrefix_1 inP
   refine Tot.jnR (fun b:Bool=>b=true↔rk r.fAddrs[k].fFrom≤rk p.fAddr∧rk (LastF p)≤rk r.fAddrs[k].fTo) (fun j hj=>Tot.bindOf (acmp_eq hx.1.1 hp.addr.1) (Tot.ite (fun h=>Tot.bindOf (last_eq hp) (Tot.bindOf (acmp_eq (lastF_V hp).1 hx.2.1.1) (hj _ ?_))) (fun h=>hj _ ?_))) (fun b hb2=>Tot.some hb2)
   ·have h:=(cmpA_le hx.1 hp.addr).1 (of_decide_eq_true h)
    rw [decide_eq_true_iff,cmpA_le (lastF_V hp) hx.2.1]
    exact⟨fun e=>⟨h,e⟩,fun e=>e.2⟩
   ·exact⟨fun e=>(by cases e),fun e=>(of_decide_eq_false h ((cmpA_le hx.1 hp.addr).2 e.1)).elim⟩
  ·unfold slices_IndexFunc_4_L0
   refine Tot.iteF (by simp) (Tot.last ?_)
   rw [List.take_length] at hb
   exact hb
  ·cases x with
   | inl i=>exact Tot.some (.inl hx)
   | inr _=>exact Tot.some (.inr ⟨rfl,hx⟩)
 ·rcases hi with ⟨h1,h2⟩ | ⟨h1,h2⟩
  ·rw [decide_eq_true h1]
   exact⟨fun _=>h2,fun _=>rfl⟩
  ·subst h1
   exact⟨fun e=>absurd e (by decide),fun e=>(h2 e).elim⟩
def fits (a t:aAddr) (q:aPrefix):Prop:=pV q∧q.fAddr=a∧rk (LastF q)≤rk t
def top (a t:aAddr) (p:aPrefix):Prop:=fits a t p∧∀ q,fits a t q→p.fLen≤q.fLen
theorem top_one {a t:aAddr} (ha:aV a) {p q:aPrefix} (hp:top a t p) (hq:top a t q):p=q:=by
 have e:p.fLen=q.fLen:=Int.le_antisymm (hp.2 _ hq.1) (hq.2 _ hp.1)
 refine pV_ext hp.1.1 hq.1.1 (by rw [hp.1.2.1,hq.1.2.1]) e (by rw [hp.1.2.1,hq.1.2.1])
inductive GL (t:aAddr):aAddr×Bool→List aPrefix→Prop
 | stop {s:aAddr×Bool}:¬ (s.2=true∧rk s.1≤rk t)→GL t s []
 | step {a:aAddr} {p:aPrefix} {l:List aPrefix}:aV a→rk a≤rk t→top a t p→GL t (NextF (LastF p)) l→GL t (a,true) (p :: l)
theorem last_num {p:aPrefix} (h:pV p):nA (LastF p)=nA p.fAddr+(2 ^ fr p-1):=by
 unfold LastF
 rw [nA_mkA]
 unfold fill
 rw [low_fr h]
theorem lo_num {P:aPrefix} (h:pV P) (hl:P.fLen<wid P.fAddr.fV6):fr (loH P)+1=fr P∧nA (loH P).fAddr=nA P.fAddr:=by
 have h0:=h.len0
 have a:=fr_eq h
 have b:=fr_eq (loH_V h hl)
 have e1:(loH P).fLen=P.fLen+1:=rfl
 have e2:(loH P).fAddr.fV6=P.fAddr.fV6:=rfl
 rw [e1,e2] at b
 exact⟨by omega,rfl⟩
theorem hi_num {P:aPrefix} (h:pV P) (hl:P.fLen<wid P.fAddr.fV6):fr (hiH P)+1=fr P∧nA (hiH P).fAddr=nA P.fAddr+2 ^ (fr P-1):=by
 have h0:=h.len0
 have a:=fr_eq h
 have b:=fr_eq (hiH_V h hl)
 have e1:(hiH P).fLen=P.fLen+1:=rfl
 have e2:(hiH P).fAddr.fV6=P.fAddr.fV6:=rfl
 rw [e1,e2] at b
 exact⟨by omega,nA_mkA _ _⟩
theorem cut_range {n k m:Nat} (h:cut m k=m):cut n k=m↔m≤n∧n≤m+(2 ^ k-1):=by
 have hp:0<2 ^ k:=Nat.pow_pos (by decide)
 unfold cut at *
 constructor
 ·intro e
  have h1:=Nat.div_add_mod n (2 ^ k)
  have h2:=Nat.mod_lt n hp
  rw [Nat.mul_comm] at h1
  omega
 ·rintro⟨h1,h2⟩
  have e:n / 2 ^ k=m / 2 ^ k:=by
   refine Nat.div_eq_of_lt_le ?_ ?_
   ·rw [h];exact h1
   ·rw [Nat.add_mul,h];omega
  rw [e,h]
theorem cont_num {p:aPrefix} (h:pV p) {a:aAddr}:ContF p a=true↔a.fV6=p.fAddr.fV6∧nA p.fAddr≤nA a∧nA a≤nA (LastF p):=by
 rw [cont_iff h,cut_range (low_fr h),last_num h]
theorem rk_num {a b:aAddr} (h:a.fV6=b.fV6):rk a≤rk b↔nA a≤nA b:=by
 unfold rk
 rw [h]
 split<;>omega
theorem last_ge {p:aPrefix} (h:pV p):nA p.fAddr≤nA (LastF p):=by rw [last_num h];omega
theorem top_on {P:aPrefix} (hP:pV P) (hl:P.fLen<wid P.fAddr.fV6) {a b:aAddr} (ha:ContF (loH P) a=true) (hb:b.fV6=P.fAddr.fV6) (hb1:nA (LastF (loH P))<nA b)
  (hno:¬ (nA a≤nA P.fAddr∧nA (LastF P)≤nA b)) {p:aPrefix} (hp:top a (LastF (loH P)) p):top a b p:=by
 have hL:=loH_V hP hl
 obtain⟨c1,c2,c3⟩:=(cont_num hL).1 ha
 have hfam:a.fV6=P.fAddr.fV6:=c1
 have hlow:nA (loH P).fAddr=nA P.fAddr:=rfl
 have hPlast:nA (LastF (loH P))≤nA (LastF P):=by
  rw [last_num hL,last_num hP,hlow]
  have:=(lo_num hP hl).1
  have:2 ^ fr (loH P)≤2 ^ fr P:=Nat.pow_le_pow_right (by decide) (by omega)
  omega
 refine⟨⟨hp.1.1,hp.1.2.1,?_⟩,fun q hq => ?_⟩
 ·have h1:=hp.1.2.2
  have e1:(LastF p).fV6=(LastF (loH P)).fV6:=by
   show p.fAddr.fV6=P.fAddr.fV6
   rw [hp.1.2.1];exact hfam
  rw [rk_num e1] at h1
  rw [rk_num (e1.trans hb.symm)]
  omega
 ·have hqf:q.fAddr.fV6=P.fAddr.fV6:=by rw [hq.2.1];exact hfam
  have hqb:nA (LastF q)≤nA b:=(rk_num (show(LastF q).fV6=b.fV6 from hqf.trans hb.symm)).1 hq.2.2
  rcases Nat.lt_or_ge (nA (LastF (loH P))) (nA (LastF q)) with c | c
  ·exfalso
   have k1:ContF q (LastF (loH P))=true:=(cont_num hq.1).2 ⟨hqf.symm,by rw [hq.2.1];exact c3,by omega⟩
   have k2:ContF P (LastF (loH P))=true:=(cont_num hP).2 ⟨rfl,by rw [← hlow];exact last_ge hL,hPlast⟩
   have k3:=lastF_cont hL
   rcases Int.lt_or_le P.fLen q.fLen with d | d
   ·have e1:(loH P).fLen=P.fLen+1:=rfl
    have hc:=nest hL hq.1 k3 k1 (by omega)
    have:=covers_cont hL hq.1 hc (lastF_cont hq.1)
    have:=((cont_num hL).1 this).2.2
    omega
   ·have hc:=nest hq.1 hP k1 k2 d
    have h1:=covers_cont hq.1 hP hc (lastF_cont hP)
    have h2:=((cont_num hq.1).1 h1).2.2
    have h3:ContF P P.fAddr=true:=(cont_num hP).2 ⟨rfl,Nat.le_refl _,last_ge hP⟩
    have h4:=((cont_num hq.1).1 (covers_cont hq.1 hP hc h3)).2.1
    rw [hq.2.1] at h4
    exact hno ⟨h4,by omega⟩
  ·refine hp.2 q ⟨hq.1,hq.2.1,(rk_num (show(LastF q).fV6=(LastF (loH P)).fV6 from hqf)).2 c⟩
theorem next_some {a:aAddr} (h:nA a+1<2 ^ wid a.fV6):NextF a=(mkA a.fV6 (nA a+1),true):=if_pos h
theorem halves_meet {P:aPrefix} (hP:pV P) (hl:P.fLen<wid P.fAddr.fV6):NextF (LastF (loH P))=((hiH P).fAddr,true)∧nA (LastF (loH P))+1=nA (hiH P).fAddr:=by
 have hL:=loH_V hP hl
 obtain⟨l1,l2⟩:=lo_num hP hl
 obtain⟨u1,u2⟩:=hi_num hP hl
 have hlt:=hi_lt hP hl
 have hp:0<2 ^ (fr P-1):=Nat.pow_pos (by decide)
 have e:nA (LastF (loH P))+1=nA P.fAddr+2 ^ (fr P-1):=by
  rw [last_num hL,l2]
  have:fr (loH P)=fr P-1:=by omega
  rw [this]
  omega
 refine⟨?_,by rw [u2];exact e⟩
 rw [next_some (show nA (LastF (loH P))+1<2 ^ wid (LastF (loH P)).fV6 by rw [e];exact hlt),e]
 rfl
theorem lo_last_le {P:aPrefix} (hP:pV P) (hl:P.fLen<wid P.fAddr.fV6):nA (LastF (hiH P))=nA (LastF P)∧nA (LastF (loH P))<nA (LastF P):=by
 have hL:=loH_V hP hl
 have hH:=hiH_V hP hl
 obtain⟨l1,l2⟩:=lo_num hP hl
 obtain⟨u1,u2⟩:=hi_num hP hl
 have hp:0<2 ^ (fr P-1):=Nat.pow_pos (by decide)
 have e2:2 ^ fr P=2 ^ (fr P-1)+2 ^ (fr P-1):=by
  have:fr P=(fr P-1)+1:=by omega
  rw [this,Nat.pow_succ]
  simp
  omega
 rw [last_num hH,last_num hP,last_num hL,l2,u2]
 have e1:fr (loH P)=fr P-1:=by omega
 have e3:fr (hiH P)=fr P-1:=by omega
 rw [e1,e3]
 omega
theorem gl_join {P:aPrefix} (hP:pV P) (hl:P.fLen<wid P.fAddr.fV6) {b:aAddr} (hb:b.fV6=P.fAddr.fV6) (hb1:nA (LastF (loH P))<nA b) {l1 l2:List aPrefix} (h2:GL b ((hiH P).fAddr,true) l2)
  {s:aAddr×Bool} (h1:GL (LastF (loH P)) s l1):(ContF (loH P) s.1=true∧s.2=true∧¬ (nA s.1≤nA P.fAddr∧nA (LastF P)≤nA b))∨s=((hiH P).fAddr,true)→GL b s (l1++l2):=by
 have hL:=loH_V hP hl
 obtain⟨m1,m2⟩:=halves_meet hP hl
 induction h1 with
 | @stop s hs =>
  rintro(⟨c1,c2,c3⟩ | rfl)
  ·refine(hs ⟨c2,?_⟩).elim
   obtain⟨d1,d2,d3⟩:=(cont_num hL).1 c1
   exact(rk_num (show s.1.fV6=(LastF (loH P)).fV6 from d1)).2 d3
  ·exact h2
 | @step a p l ha hle ht hg ih =>
  rintro(⟨c1,c2,c3⟩ | e)
  ·obtain⟨d1,d2,d3⟩:=(cont_num hL).1 c1
   simp only at c1 c3 d1 d2 d3
   have hpf:p.fAddr.fV6=P.fAddr.fV6:=by rw [ht.1.2.1];exact d1
   have hpl:nA (LastF p)≤nA (LastF (loH P)):=(rk_num (show(LastF p).fV6=(LastF (loH P)).fV6 from hpf)).1 ht.1.2.2
   have hpg:=last_ge ht.1.1
   rw [ht.1.2.1] at hpg
   refine GL.step ha ((rk_num (d1.trans hb.symm)).2 (by omega)) (top_on hP hl c1 hb hb1 c3 ht) (ih ?_)
   have hlt:=hi_lt hP hl
   rcases Nat.lt_or_ge (nA (LastF p)) (nA (LastF (loH P))) with c | c
   ·have hn:NextF (LastF p)=(mkA (LastF p).fV6 (nA (LastF p)+1),true):=by
     refine next_some ?_
     rw [show(LastF p).fV6=P.fAddr.fV6 from hpf]
     have:nA (hiH P).fAddr=nA P.fAddr+2 ^ (fr P-1):=(hi_num hP hl).2
     omega
    left
    rw [hn]
    simp only
    refine⟨(cont_num hL).2 ⟨hpf,?_,?_⟩,trivial,?_⟩
    ·rw [nA_mkA];omega
    ·rw [nA_mkA];omega
    ·rw [nA_mkA]
     rintro⟨e1,_⟩
     have:nA (loH P).fAddr=nA P.fAddr:=rfl
     omega
   ·right
    have:LastF p=LastF (loH P):=by
     refine aV_eq (lastF_V ht.1.1).1 (lastF_V hL).1 hpf (by omega)
    rw [this]
    exact m1
  ·exfalso
   have e1:a=(hiH P).fAddr:=congrArg Prod.fst e
   subst e1
   have:=(rk_num (show(hiH P).fAddr.fV6=(LastF (loH P)).fV6 from rfl)).1 hle
   omega
def loA (x:aRange) (P:aPrefix):aAddr:=if rk x.fFrom≤rk P.fAddr then P.fAddr else x.fFrom
noncomputable def hiA (x:aRange) (P:aPrefix):aAddr:=if rk (LastF P)≤rk x.fTo then LastF P else x.fTo
structure xV (x:aRange):Prop where
 f:aV x.fFrom
 t:aV x.fTo
 v:x.fFrom.fV6=x.fTo.fV6
 le:rk x.fFrom≤rk x.fTo
structure Dv (x:aRange) (P:aPrefix) (l:List aPrefix):Prop where
 out:(rk (LastF P)<rk x.fFrom∨rk x.fTo<rk P.fAddr)→l=[]
 gl:rk x.fFrom≤rk (LastF P)→rk P.fAddr≤rk x.fTo→GL (hiA x P) (loA x P,true) l
 n0:l.length≤2*fr P+1
 n1:rk x.fFrom≤rk P.fAddr→l.length≤fr P+1
 n2:rk (LastF P)≤rk x.fTo→l.length≤fr P+1
 n3:rk x.fFrom≤rk P.fAddr→rk (LastF P)≤rk x.fTo→l.length≤1
theorem rk_first_last {P:aPrefix} (hP:pV P):rk P.fAddr≤rk (LastF P):=(rk_num (show P.fAddr.fV6=(LastF P).fV6 from rfl)).2 (last_ge hP)
theorem top_self {P:aPrefix} (hP:pV P):top P.fAddr (LastF P) P:=by
 refine⟨⟨hP,rfl,Nat.le_refl _⟩,fun q hq => ?_⟩
 have hv:q.fAddr.fV6=P.fAddr.fV6:=by rw [hq.2.1]
 have h1:=(rk_num (show(LastF q).fV6=(LastF P).fV6 from hv)).1 hq.2.2
 rw [last_num hq.1,last_num hP,hq.2.1] at h1
 have h2:=fr_eq hP
 have h3:=fr_eq hq.1
 rw [hv] at h3
 rcases Nat.lt_or_ge (fr P) (fr q) with c | c
 ·have:2 ^ fr P<2 ^ fr q:=Nat.pow_lt_pow_right (by decide) c
  have:=Nat.pow_pos (n:=fr P) (show 0<2 by decide)
  omega
 ·omega
theorem next_gt {a:aAddr} {t:aAddr} (h:rk t≤rk a):GL t (NextF a) []:=by
 refine GL.stop ?_
 rintro⟨h1,h2⟩
 have:=(next_rk h1).2.1
 omega
theorem dv_all {x:aRange} {P:aPrefix} (hP:pV P) (h1:rk x.fFrom≤rk P.fAddr) (h2:rk (LastF P)≤rk x.fTo):Dv x P [P]:=by
 have h:=rk_first_last hP
 refine⟨fun h=>by omega,fun _ _ => ?_,by simp,by simp,by simp,by simp⟩
 unfold loA hiA
 rw [if_pos h1,if_pos h2]
 exact GL.step hP.addr h (top_self hP) (next_gt (Nat.le_refl _))
theorem dv_none {x:aRange} {P:aPrefix} (h:rk (LastF P)<rk x.fFrom∨rk x.fTo<rk P.fAddr):Dv x P [] :=
 ⟨fun _=>rfl,fun h1 h2=>by omega,by simp,by simp,by simp,by simp⟩
theorem no_halves {P:aPrefix} (hP:pV P) (hl:¬ P.fLen<wid P.fAddr.fV6):rk (LastF P)=rk P.fAddr:=by
 have h1:=fr_eq hP
 have h2:=hP.len1
 have e:fr P=0:=by omega
 have:nA (LastF P)=nA P.fAddr:=by rw [last_num hP,e];simp
 have hv:(LastF P).fV6=P.fAddr.fV6:=rfl
 exact Nat.le_antisymm ((rk_num hv).2 (by omega)) ((rk_num hv.symm).2 (by omega))
theorem dv_halves {x:aRange} (hx:xV x) {P:aPrefix} (hP:pV P) (hv:x.fFrom.fV6=P.fAddr.fV6) (hl:P.fLen<wid P.fAddr.fV6) (hin:¬ (rk x.fFrom≤rk P.fAddr∧rk (LastF P)≤rk x.fTo))
  {l1 l2:List aPrefix} (d1:Dv x (loH P) l1) (d2:Dv x (hiH P) l2):Dv x P (l1++l2):=by
 have hL:=loH_V hP hl
 have hH:=hiH_V hP hl
 obtain⟨m1,m2⟩:=halves_meet hP hl
 obtain⟨b1,b2⟩:=lo_last_le hP hl
 have f1:=(lo_num hP hl).1
 have f2:=(hi_num hP hl).1
 have k1:rk (loH P).fAddr=rk P.fAddr:=rfl
 have k2:rk (LastF (loH P))+1=rk (hiH P).fAddr:=by
  have hq:(LastF (loH P)).fV6=(hiH P).fAddr.fV6:=rfl
  unfold rk
  rw [hq]
  split<;>omega
 have eL:LastF (hiH P)=LastF P:=aV_eq (lastF_V hH).1 (lastF_V hP).1 (by unfold LastF;rw [mkA_v6,mkA_v6];rfl) b1
 have k3:rk (hiH P).fAddr≤rk (LastF P):=by rw [← eL];exact rk_first_last hH
 have k4:rk P.fAddr≤rk (LastF (loH P)):=by have:=rk_first_last hL;rwa [k1] at this
 obtain⟨o1,g1,n10,n11,n12,n13⟩:=d1
 obtain⟨o2,g2,n20,n21,n22,n23⟩:=d2
 rw [eL] at o2 g2 n22 n23
 rw [k1] at o1 g1 n11 n13
 have hle:=hx.le
 rcases Nat.lt_or_ge (rk (LastF (loH P))) (rk x.fFrom) with c | c
 ·
  have e1:l1=[]:=o1 (.inl c)
  subst e1
  rw [List.nil_append]
  refine⟨fun h=>o2 (by omega),fun h1 h2 => ?_,by omega,fun h=>by omega,fun h=>by have:=n22 h;omega,fun h _=>by omega⟩
  have e2:loA x P=loA x (hiH P):=by
   unfold loA
   rw [if_neg (by omega)]
   by_cases c2:rk x.fFrom≤rk (hiH P).fAddr
   ·rw [if_pos c2];exact rk_inj hx.f hH.addr (by omega)
   ·rw [if_neg c2]
  have e3:hiA x P=hiA x (hiH P):=by unfold hiA;rw [eL]
  rw [e2,e3]
  exact g2 h1 (by omega)
 ·rcases Nat.lt_or_ge (rk x.fTo) (rk (hiH P).fAddr) with c2 | c2
  ·
   have e1:l2=[]:=o2 (.inr c2)
   subst e1
   rw [List.append_nil]
   refine⟨fun h=>o1 (by omega),fun h1 h2 => ?_,by omega,fun h=>by have:=n11 h;omega,fun h=>by omega,fun h1 h2=>by omega⟩
   have e2:loA x P=loA x (loH P):=rfl
   have e3:hiA x P=hiA x (loH P):=by
    unfold hiA
    rw [if_neg (by omega)]
    by_cases c3:rk (LastF (loH P))≤rk x.fTo
    ·rw [if_pos c3];exact rk_inj hx.t (lastF_V hL) (by omega)
    ·rw [if_neg c3]
   rw [e2,e3]
   exact g1 c h2
  ·have hlen:(l1++l2).length=l1.length+l2.length:=List.length_append
   have q1:=n12 (by omega)
   have q2:=n21 (by omega)
   refine⟨fun h=>by omega,fun h1 h2 => ?_,by omega,fun h => ?_,fun h => ?_,fun h1 h2=>(hin ⟨h1,h2⟩).elim⟩
   ·have e1:hiA x (loH P)=LastF (loH P):=by unfold hiA;rw [if_pos (by omega)]
    have e2:loA x (hiH P)=(hiH P).fAddr:=by unfold loA;rw [if_pos (by omega)]
    have e3:hiA x (hiH P)=hiA x P:=by unfold hiA;rw [eL]
    have G1:=g1 c (by omega)
    have G2:=g2 (by omega) c2
    rw [e1] at G1
    rw [e2,e3] at G2
    have hav:(loA x P).fV6=P.fAddr.fV6:=by unfold loA;split;rfl;exact hv
    have hbv:(hiA x P).fV6=P.fAddr.fV6:=by unfold hiA;split;rfl;rw [← hx.v];exact hv
    have hlo:rk (loA x P)≤rk (LastF (loH P))∧rk P.fAddr≤rk (loA x P):=by unfold loA;split<;>omega
    have hhi:rk (LastF (loH P))<rk (hiA x P):=by unfold hiA;split<;>omega
    refine gl_join hP hl hbv ?_ G2 G1 (.inl ⟨(cont_num hL).2 ⟨hav,?_,?_⟩,rfl,?_⟩)
    ·rcases Nat.lt_or_ge (nA (LastF (loH P))) (nA (hiA x P)) with d | d
     ·exact d
     ·have:=(rk_num (show(hiA x P).fV6=(LastF (loH P)).fV6 from hbv)).2 d
      omega
    ·exact(rk_num (show(loH P).fAddr.fV6=(loA x P).fV6 from hav.symm)).1 hlo.2
    ·exact(rk_num (show(loA x P).fV6=(LastF (loH P)).fV6 from hav)).1 hlo.1
    ·rintro⟨z1,z2⟩
     have y1:=(rk_num hav).2 z1
     have y2:=(rk_num (show(LastF P).fV6=(hiA x P).fV6 from hbv.symm)).2 z2
     refine hin ⟨?_,?_⟩
     ·unfold loA at y1;split at y1<;>omega
     ·unfold hiA at y2;split at y2<;>omega
   ·have:=n13 h (by omega)
    omega
   ·have:=n23 (by omega) h
    omega
theorem div_tot {x:aRange} (hx:xV x):∀ (n:Nat) (P:aPrefix),pV P→x.fFrom.fV6=P.fAddr.fV6→fr P<n→Tot (xref21_divide n P x) (Dv x P)
 | 0,P,_,_,h=>by omega
 | n+1,P,hP,hv,h=>by
  rw [xref21_divide]
  have hlv:=lastF_V hP
  refine Tot.bindOf (rlast_eq hP) (Tot.jnR (fun m:Bool=>m=true↔(rk (LastF P)<rk x.fFrom∨rk x.fTo<rk P.fAddr)) (fun j hj=>Tot.bindOf (racmp_eq hlv.1 hx.f.1) (Tot.ite (fun h=>hj _ ?_) (fun h=>Tot.bindOf (racmp_eq hx.t.1 hP.addr.1) (hj _ ?_)))) (fun m hm=>Tot.ite (fun h=>Tot.some (dv_none (hm.1 h))) (fun h => ?_)))
  ·exact⟨fun _ => .inl ((cmpA_lt hlv hx.f).1 (of_decide_eq_true h)),fun _=>rfl⟩
  ·have h:=fun e=>of_decide_eq_false h ((cmpA_lt hlv hx.f).2 e)
   rw [decide_eq_true_iff,cmpA_lt hx.t hP.addr]
   exact⟨fun e => .inr e,fun e=>e.resolve_left h⟩
  ·have hno:¬ (rk (LastF P)<rk x.fFrom∨rk x.fTo<rk P.fAddr):=fun e=>by rw [hm.2 e] at h;cases h
   refine Tot.jnR (fun m:Bool=>m=true↔(rk x.fFrom≤rk P.fAddr∧rk (LastF P)≤rk x.fTo)) (fun j hj=>Tot.bindOf (racmp_eq hx.f.1 hP.addr.1) (Tot.ite (fun h=>Tot.bindOf (racmp_eq hlv.1 hx.t.1) (hj _ ?_)) (fun h=>hj _ ?_))) (fun m hm2=>Tot.ite (fun h=>Tot.some (dv_all hP (hm2.1 h).1 (hm2.1 h).2)) (fun h => ?_))
   ·have h:=(cmpA_le hx.f hP.addr).1 (of_decide_eq_true h)
    rw [decide_eq_true_iff,cmpA_le hlv hx.t]
    exact⟨fun e=>⟨h,e⟩,fun e=>e.2⟩
   ·exact⟨fun e=>(by cases e),fun e=>(of_decide_eq_false h ((cmpA_le hx.f hP.addr).2 e.1)).elim⟩
   ·have hin:¬ (rk x.fFrom≤rk P.fAddr∧rk (LastF P)≤rk x.fTo):=fun e=>by rw [hm2.2 e] at h;cases h
    have hl:P.fLen<wid P.fAddr.fV6:=by
     by_cases c:P.fLen<wid P.fAddr.fV6
     ·exact c
     ·have:=no_halves hP c
      exact(hin ⟨by omega,by omega⟩).elim
    have f1:=(lo_num hP hl).1
    have f2:=(hi_num hP hl).1
    have hlen:¬ P.fLen=wid P.fAddr.fV6:=by omega
    refine Tot.bindOf (rhalves_eq hP.addr.1) ?_
    unfold HalvesF
    rw [if_pos hP,if_neg hlen]
    refine Tot.bindT (div_tot hx n (loH P) (loH_V hP hl) hv (by omega)) fun l1 d1=>Tot.bindT (div_tot hx n (hiH P) (hiH_V hP hl) hv (by omega)) fun l2 d2 => ?_
    have d:=dv_halves hx hP hv hl hin d1 d2
    have:=d.n0
    have hw:fr P≤128:=Nat.le_trans (fr_wid P) (wid_le _)
    exact Tot.chk (limB (by omega)) (Tot.some d)
def P0 (v:Bool):aPrefix:=aPrefix.mk (aAddr.mk v 0 0) 0
theorem p0_n (v:Bool):nA (P0 v).fAddr=0:=by unfold nA P0;simp
theorem p0_V (v:Bool):pV (P0 v):=by
 have e:nA (P0 v).fAddr=0:=p0_n v
 have z:(0:Int)≤0∧(0:Int)<18446744073709551616:=by decide
 refine⟨⟨⟨z,z⟩,?_⟩,Int.le_refl _,?_,?_⟩
 ·exact .inr ⟨rfl,show(0:Int)<4294967296 by decide⟩
 ·show(0:Int)≤_
  omega
 ·rw [e]
  unfold cut
  simp
theorem p0_first {v:Bool} {a:aAddr} (h:a.fV6=v):rk (P0 v).fAddr≤rk a:=by
 have e:nA (P0 v).fAddr=0:=p0_n v
 refine(rk_num ?_).2 (by omega)
 exact h.symm
theorem p0_last {v:Bool} {a:aAddr} (ha:aV a) (h:a.fV6=v):rk a≤rk (LastF (P0 v)):=by
 have e:nA (P0 v).fAddr=0:=p0_n v
 have e2:fr (P0 v)=wid v:=by
  have h1:=fr_eq (p0_V v)
  have e4:(P0 v).fLen=0:=rfl
  have e5:(P0 v).fAddr.fV6=v:=rfl
  rw [e4,e5] at h1
  omega
 refine(rk_num ?_).2 ?_
 ·exact h
 ·rw [last_num (p0_V v),e,e2]
  have:=aV_lt ha
  rw [h] at this
  omega
theorem div_all {x:aRange} (hx:xV x):Tot (xref21_divide 1000 (P0 x.fFrom.fV6) x) (fun l=>GL x.fTo (x.fFrom,true) l∧l.length≤257):=by
 have hV:=p0_V x.fFrom.fV6
 have hw:fr (P0 x.fFrom.fV6)≤128:=Nat.le_trans (fr_wid _) (wid_le _)
 refine(div_tot hx 1000 _ hV rfl (by omega)).mono fun l d=>⟨?_,by have:=d.n0;omega⟩
 have h1:=p0_first (v:=x.fFrom.fV6) (a:=x.fFrom) rfl
 have h2:=p0_last (v:=x.fFrom.fV6) hx.t hx.v.symm
 have hle:=hx.le
 have:=d.gl (by omega) (by omega)
 have e1:loA x (P0 x.fFrom.fV6)=x.fFrom:=by
  unfold loA
  split
  ·exact rk_inj hV.addr hx.f (by omega)
  ·rfl
 have e2:hiA x (P0 x.fFrom.fV6)=x.fTo:=by
  unfold hiA
  split
  ·exact rk_inj (lastF_V hV) hx.t (by omega)
  ·rfl
 rw [e1,e2] at this
 exact this
theorem gl_one {t:aAddr} {s:aAddr×Bool} {l l':List aPrefix} (h:GL t s l):GL t s l'→l=l':=by
 induction h generalizing l' with
 | @stop s hs =>
  intro h'
  cases h' with
  | stop _=>rfl
  | step _ hle _ _=>exact(hs ⟨rfl,hle⟩).elim
 | @step a p l ha hle ht hg ih =>
  intro h'
  cases h' with
  | stop hs=>exact(hs ⟨rfl,hle⟩).elim
  | step _ _ ht' hg' =>
   have e:=top_one ha ht ht'
   subst e
   rw [ih hg']
open Classical in
/-- a range's fewest prefixes -/
noncomputable def PX (x:aRange):List aPrefix:=if h:∃ l,GL x.fTo (x.fFrom,true) l then Classical.choose h else []
theorem px_is {x:aRange} {l:List aPrefix} (h:GL x.fTo (x.fFrom,true) l):PX x=l:=by
 unfold PX
 have hh:∃ l,GL x.fTo (x.fFrom,true) l:=⟨l,h⟩
 rw [dif_pos hh]
 exact gl_one (Classical.choose_spec hh) h
theorem px_ok {x:aRange} (hx:xV x):GL x.fTo (x.fFrom,true) (PX x)∧(PX x).length≤257:=by
 obtain⟨l,_,h1,h2⟩:=div_all hx
 rw [px_is h1]
 exact⟨h1,h2⟩
theorem div_eq {x:aRange} (hx:xV x):xref21_divide 1000 (P0 x.fFrom.fV6) x=some (PX x):=by
 obtain⟨l,e,h1,h2⟩:=div_all hx
 rw [e,px_is h1]
theorem flat_snoc {α β:Type} {xs:List α} {k:Nat} (hk:k<xs.length) (f:α→List β):(xs.take (k+1)).flatMap f=(xs.take k).flatMap f++f xs[k]:=by
 rw [take_snoc hk,List.flatMap_append]
 simp
theorem vres_x {r:aResources} (h:VRes r):∀ x∈r.fAddrs,xV x:=by
 intro x hx
 obtain⟨h1,h2,h3⟩:=h.av x hx
 refine⟨h1,h2,h3,?_⟩
 have:=h.va.1 (ivA x) (List.mem_map_of_mem hx)
 exact this
theorem rpres_eq {r:aResources} (hr:∀ x∈r.fAddrs,xV x) (hl:r.fAddrs.length≤1000000):xref21_Prefixes r=some (r.fAddrs.flatMap PX)∧(r.fAddrs.flatMap PX).length≤257*r.fAddrs.length:=by
 suffices h:Tot (xref21_Prefixes r) (fun l=>l=r.fAddrs.flatMap PX∧l.length≤257*r.fAddrs.length) by
  obtain⟨l,e,rfl,h2⟩:=h
  exact⟨e,h2⟩
 unfold xref21_Prefixes
 refine Tot.bindRng r.fAddrs.length (fun k (b:List aPrefix)=>(((k:Nat):Int),b)) (fun k b=>b=(r.fAddrs.take k).flatMap PX∧b.length≤257*k) (fun l=>l=r.fAddrs.flatMap PX∧l.length≤257*r.fAddrs.length) [] rfl (by simp) (fun k b hk hb => ?_) (fun b hb => ?_) (fun l hl=>Tot.some hl)
 ·have hw:w64 ((k:Int)+1)=((k+1:Nat):Int):=by rw [w64_id (by omega) (by omega)];rfl
  unfold xref21_Prefixes_L0
  have hx:=hr _ (List.getElem_mem hk)
  refine Tot.iteT (by simpa using hk) (Tot.bindIdx k rfl hk (Tot.bindOf (div_eq hx) ?_))
  have h2:=(px_ok hx).2
  have h1:(b++PX r.fAddrs[k]).length≤257*(k+1):=by
   have:=hb.2
   rw [List.length_append]
   omega
  exact Tot.chk (limB (show(b++PX r.fAddrs[k]).length≤4000000000 by omega)) (Tot.step (b++PX r.fAddrs[k]) (by rw [hw]) ⟨by rw [flat_snoc hk,← hb.1],h1⟩)
 ·unfold xref21_Prefixes_L0
  refine Tot.iteF (by simp) (Tot.last ?_)
  have:=hb.1
  rw [List.take_length] at this
  exact⟨this,hb.2⟩
theorem gl_mem {t:aAddr} {s:aAddr×Bool} {l:List aPrefix} (h:GL t s l):∀ p∈l,pV p:=by
 induction h with
 | stop _=>intro p hp;cases hp
 | step _ _ ht _ ih =>
  intro p hp
  rcases List.mem_cons.1 hp with e | e
  ·rw [e];exact ht.1.1
  ·exact ih p e
theorem px_mem {l:List aRange} (h:∀ x∈l,xV x):∀ p∈l.flatMap PX,pV p:=by
 intro p hp
 obtain⟨x,hx,hp⟩:=List.mem_flatMap.1 hp
 exact gl_mem (px_ok (h x hx)).1 p hp
def AVp (l:List aAddr_):Prop:=∀ x∈l,aV x.ffrom∧aV x.fto∧x.ffrom.fV6=x.fto.fV6
def SVp (l:List resource_part_int_):Prop:=∀ x∈l,okN x.ffrom x.fto
theorem cmp_I {x y:Int}:cmp_Compare x y=some (if x<y then -1 else if y<x then 1 else 0):=compare_eq x y
theorem lt_I {x y:Int}:(if x<y then (-1:Int) else if y<x then 1 else 0)<0↔x<y:=by
 split
 ·exact⟨fun _=>by assumption,fun _=>by omega⟩
 ·split
  ·exact⟨fun h=>by omega,fun h=>by omega⟩
  ·exact⟨fun h=>by omega,fun h=>by omega⟩
theorem avp_r {l:List aRange} (h:AVr l):AVp (l.map paA):=fun x hx=>by
 obtain⟨y,hy,rfl⟩:=List.mem_map.1 hx
 exact h y hy
theorem svp_r {l:List aSpan} (h:SVr l):SVp (l.map paS):=fun x hx=>by
 obtain⟨y,hy,rfl⟩:=List.mem_map.1 hx
 exact h y hy
theorem map_paA (l:List aRange):(l.map paA).map ivP=l.map ivA:=by rw [List.map_map];rfl
theorem map_paS (l:List aSpan):(l.map paS).map ivI=l.map ivS:=by rw [List.map_map];rfl
def cutx (t:Nat):Nat→List Iv→List Iv
 | f,[]=>[(f,t)]
 | f,y :: ys=>if y.2<f∨t<y.1 then cutx t f ys else (if f<y.1 then [(f,y.1-1)] else [])++(if t≤y.2 then [] else cutx t (y.2+1) ys)
theorem vl_app {l m:List Iv} (hl:VL l) (hm:VL m) (h:∀ x∈l,∀ y∈m,x.2+1<y.1):VL (l++m) :=
 ⟨fun x hx=>(List.mem_append.1 hx).elim (hl.1 x) (hm.1 x),List.pairwise_append.2 ⟨hl.2,hm.2,h⟩⟩
theorem vl_one {x:Iv} (h:x.1≤x.2):VL [x]:=⟨fun y hy=>by rw [List.mem_singleton.1 hy];exact h,List.pairwise_singleton _ _⟩
theorem inI_fst {l:List Iv} (h:VL l) {x:Iv} (hx:x∈l):inI x.1 l:=⟨x,hx,Nat.le_refl _,h.1 x hx⟩
structure CutOk (t f:Nat) (ys l:List Iv):Prop where
 vl:VL l
 is:∀ n,inI n l↔(f≤n∧n≤t)∧¬ inI n ys
 bd:∀ z∈l,f≤z.1∧z.2≤t
 len:l.length≤ys.length+1
theorem cutx_ok (t:Nat):∀ (ys:List Iv) (f:Nat),VL ys→f≤t→CutOk t f ys (cutx t f ys)
 | [],f,_,h=>by
  unfold cutx
  refine⟨vl_one h,fun n => ?_,fun z hz => ?_,Nat.le_refl _⟩
  ·rw [inI_one]
   exact⟨fun e=>⟨e,inI_nil⟩,fun e=>e.1⟩
  ·rw [List.mem_singleton.1 hz];exact⟨Nat.le_refl _,Nat.le_refl _⟩
 | y :: ys,f,hv,h=>by
  have hy:=hv.1 y (List.mem_cons_self ..)
  have hh:=fun n=>hv.head (n:=n)
  unfold cutx
  by_cases c:y.2<f∨t<y.1
  ·rw [if_pos c]
   obtain⟨i1,i2,i3,i4⟩:=cutx_ok t ys f hv.tail h
   refine⟨i1,fun n => ?_,i3,by simp only [List.length_cons];omega⟩
   rw [i2,inI_cons]
   exact⟨fun e=>⟨e.1,fun k=>k.elim (fun k=>by have:=e.1;omega) e.2⟩,fun e=>⟨e.1,fun k=>e.2 (.inr k)⟩⟩
  ·rw [if_neg c]
   have P:VL (if f<y.1 then [(f,y.1-1)] else [])∧(∀ n,inI n (if f<y.1 then [(f,y.1-1)] else [])↔f≤n∧n<y.1)∧(∀ z∈(if f<y.1 then [(f,y.1-1)] else []),f≤z.1∧z.2+1=y.1)∧(if f<y.1 then [(f,y.1-1)] else []).length≤1:=by
    by_cases d:f<y.1
    ·rw [if_pos d]
     refine⟨vl_one (by simp only;omega),fun n => ?_,fun z hz => ?_,Nat.le_refl _⟩
     ·rw [inI_one];simp only;omega
     ·rw [List.mem_singleton.1 hz];simp only;omega
    ·rw [if_neg d]
     exact⟨vl_nil,fun n=>⟨fun e=>(inI_nil e).elim,fun e=>by omega⟩,fun z hz=>(by cases hz),Nat.zero_le _⟩
   generalize (if f<y.1 then [(f,y.1-1)] else [])=p at P
   obtain⟨p1,p2,p3,p4⟩:=P
   by_cases d:t≤y.2
   ·rw [if_pos d,List.append_nil]
    refine⟨p1,fun n => ?_,fun z hz => ?_,by simp only [List.length_cons];omega⟩
    ·rw [p2,inI_cons]
     constructor
     ·intro e
      refine⟨by omega,fun k=>k.elim (fun k=>by omega) fun k => ?_⟩
      have:=hh n k
      omega
     ·rintro⟨e,k⟩
      refine⟨e.1,?_⟩
      rcases Nat.lt_or_ge n y.1 with g | g
      ·exact g
      ·exact(k (.inl ⟨g,by omega⟩)).elim
    ·have:=p3 z hz
     omega
   ·rw [if_neg d]
    obtain⟨i1,i2,i3,i4⟩:=cutx_ok t ys (y.2+1) hv.tail (by omega)
    refine⟨vl_app p1 i1 fun x hx z hz => ?_,fun n => ?_,fun z hz => ?_,by simp only [List.length_append,List.length_cons];omega⟩
    ·have:=(p3 x hx).2
     have:=(i3 z hz).1
     omega
    ·rw [inI_app,p2,i2,inI_cons]
     constructor
     ·rintro(e | e)
      ·refine⟨by omega,fun k=>k.elim (fun k=>by omega) fun k => ?_⟩
       have:=hh n k
       omega
      ·exact⟨by omega,fun k=>k.elim (fun k=>by omega) e.2⟩
     ·rintro⟨e,k⟩
      rcases Nat.lt_or_ge n y.1 with g | g
      ·exact .inl ⟨e.1,g⟩
      ·right
       refine⟨⟨?_,e.2⟩,fun k2=>k (.inr k2)⟩
       rcases Nat.lt_or_ge y.2 n with g2 | g2
       ·exact g2
       ·exact(k (.inl ⟨g,g2⟩)).elim
    ·rcases List.mem_append.1 hz with hz | hz
     ·have:=p3 z hz
      omega
     ·have:=i3 z hz
      omega
def minusL (a b:List Iv):List Iv:=a.flatMap fun x=>cutx x.2 x.1 b
theorem minusL_ok {b:List Iv} (hb:VL b):∀ {a:List Iv},VL a→VL (minusL a b)∧(∀ n,inI n (minusL a b)↔inI n a∧¬ inI n b)∧(minusL a b).length≤a.length*(b.length+1)
 | [],_=>⟨vl_nil,fun n=>⟨fun e=>(inI_nil e).elim,fun e=>(inI_nil e.1).elim⟩,by simp [minusL]⟩
 | x :: a,ha=>by
  obtain⟨i1,i2,i3⟩:=minusL_ok hb ha.tail
  obtain⟨c1,c2,c3,c4⟩:=cutx_ok x.2 b x.1 hb (ha.1 x (List.mem_cons_self ..))
  have e:minusL (x :: a) b=cutx x.2 x.1 b++minusL a b:=by unfold minusL;rw [List.flatMap_cons]
  rw [e]
  refine⟨vl_app c1 i1 fun y hy z hz => ?_,fun n => ?_,?_⟩
  ·have h1:=(c3 y hy).2
   have h2:=ha.head ((i2 z.1).1 (inI_fst i1 hz)).1
   omega
  ·rw [inI_app,c2,i2,inI_cons]
   constructor
   ·rintro(h | h)
    ·exact⟨.inl h.1,h.2⟩
    ·exact⟨.inr h.1,h.2⟩
   ·rintro⟨h | h,k⟩
    ·exact .inl ⟨h,k⟩
    ·exact .inr ⟨h,k⟩
  ·rw [List.length_append,List.length_cons,Nat.succ_mul]
   omega
def cut1 (x:Iv):List Iv→List Iv
 | []=>[]
 | y :: ys=>(if max x.1 y.1≤min x.2 y.2 then [(max x.1 y.1,min x.2 y.2)] else [])++cut1 x ys
theorem cut1_ok (x:Iv):∀ {b:List Iv},VL b→VL (cut1 x b)∧(∀ n,inI n (cut1 x b)↔(x.1≤n∧n≤x.2)∧inI n b)∧(∀ z∈cut1 x b,x.1≤z.1∧z.2≤x.2)∧(cut1 x b).length≤b.length
 | [],_=>⟨vl_nil,fun n=>⟨fun e=>(inI_nil e).elim,fun e=>(inI_nil e.2).elim⟩,fun z hz=>(by cases hz),Nat.le_refl _⟩
 | y :: b,hb=>by
  obtain⟨i1,i2,i3,i4⟩:=cut1_ok x hb.tail
  unfold cut1
  have P:VL (if max x.1 y.1≤min x.2 y.2 then [(max x.1 y.1,min x.2 y.2)] else [])∧(∀ n,inI n (if max x.1 y.1≤min x.2 y.2 then [(max x.1 y.1,min x.2 y.2)] else [])↔(x.1≤n∧n≤x.2)∧(y.1≤n∧n≤y.2))∧(∀ z∈(if max x.1 y.1≤min x.2 y.2 then [(max x.1 y.1,min x.2 y.2)] else []),x.1≤z.1∧z.2≤x.2∧z.2≤y.2)∧(if max x.1 y.1≤min x.2 y.2 then [(max x.1 y.1,min x.2 y.2)] else []).length≤1:=by
   by_cases d:max x.1 y.1≤min x.2 y.2
   ·rw [if_pos d]
    refine⟨vl_one d,fun n => ?_,fun z hz => ?_,Nat.le_refl _⟩
    ·rw [inI_one];simp only;omega
    ·rw [List.mem_singleton.1 hz];simp only;omega
   ·rw [if_neg d]
    exact⟨vl_nil,fun n=>⟨fun e=>(inI_nil e).elim,fun e=>by omega⟩,fun z hz=>(by cases hz),Nat.zero_le _⟩
  generalize (if max x.1 y.1≤min x.2 y.2 then [(max x.1 y.1,min x.2 y.2)] else [])=p at P
  obtain⟨p1,p2,p3,p4⟩:=P
  refine⟨vl_app p1 i1 fun u hu z hz => ?_,fun n => ?_,fun z hz => ?_,by simp only [List.length_append,List.length_cons];omega⟩
  ·have h1:=(p3 u hu).2.2
   have h2:=hb.head ((i2 z.1).1 (inI_fst i1 hz)).2
   omega
  ·rw [inI_app,p2,i2,inI_cons]
   constructor
   ·rintro(h | h)
    ·exact⟨h.1,.inl h.2⟩
    ·exact⟨h.1,.inr h.2⟩
   ·rintro⟨h,k | k⟩
    ·exact .inl ⟨h,k⟩
    ·exact .inr ⟨h,k⟩
  ·rcases List.mem_append.1 hz with hz | hz
   ·have:=p3 z hz;omega
   ·exact i3 z hz
def cutsL (a b:List Iv):List Iv:=a.flatMap fun x=>cut1 x b
theorem cutsL_ok {b:List Iv} (hb:VL b):∀ {a:List Iv},VL a→VL (cutsL a b)∧(∀ n,inI n (cutsL a b)↔inI n a∧inI n b)∧(cutsL a b).length≤a.length*b.length
 | [],_=>⟨vl_nil,fun n=>⟨fun e=>(inI_nil e).elim,fun e=>(inI_nil e.1).elim⟩,by simp [cutsL]⟩
 | x :: a,ha=>by
  obtain⟨i1,i2,i3⟩:=cutsL_ok hb ha.tail
  obtain⟨c1,c2,c3,c4⟩:=cut1_ok x hb
  have e:cutsL (x :: a) b=cut1 x b++cutsL a b:=by unfold cutsL;rw [List.flatMap_cons]
  rw [e]
  refine⟨vl_app c1 i1 fun y hy z hz => ?_,fun n => ?_,?_⟩
  ·have h1:=(c3 y hy).2
   have h2:=ha.head ((i2 z.1).1 (inI_fst i1 hz)).1
   omega
  ·rw [inI_app,c2,i2,inI_cons]
   constructor
   ·rintro(h | h)
    ·exact⟨.inl h.1,h.2⟩
    ·exact⟨.inr h.1,h.2⟩
   ·rintro⟨h | h,k⟩
    ·exact .inl ⟨h,k⟩
    ·exact .inr ⟨h,k⟩
  ·rw [List.length_append,List.length_cons,Nat.succ_mul]
   omega
def PrevF (a:aAddr):aAddr×Bool:=if nA a=0 then (aAddr.mk false 0 0,false) else (mkA a.fV6 (nA a-1),true)
theorem before_eq {a:aAddr} (ha:aV a):resource_before a=some (PrevF a):=by
 obtain⟨hi,lo,b1,b2,e1,e2,e3⟩:=next_parts a ha
 obtain⟨v,H,L⟩:=a
 simp only at e1 e2 e3
 subst e1 e2
 refine Tot.eq ?_
 unfold resource_before PrevF
 simp only
 rw [e3]
 refine Tot.ite (fun h=>Tot.some ?_) (fun h => ?_)
 ·simp only [Bool.and_eq_true,beq_iff_eq] at h
  rw [if_pos (by omega)]
 ·have hne:¬ hi*18446744073709551616+lo=0:=by
   intro e
   have h1:hi=0:=by omega
   have h2:lo=0:=by omega
   subst h1 h2
   simp at h
  rw [if_neg hne]
  refine Tot.jnR (fun m:aAddr=>m=if lo=0 then aAddr.mk v ((hi-1:Nat):Int) 0 else aAddr.mk v hi lo) (fun j hj=>Tot.ite (fun h2=>hj _ ?_) (fun h2=>hj _ ?_)) (fun m hm => ?_)
  ·have h2:lo=0:=by have:=beq_iff_eq.1 h2;omega
   subst h2
   rw [if_pos rfl]
   have:IntKind.u64.wrap ((hi:Int)-1)=((hi-1:Nat):Int):=by rw [IntKind.wrap_u64];omega
   rw [this]
   rfl
  ·have h2:¬ lo=0:=by have:=beq_eq_false_iff_ne.1 h2;omega
   rw [if_neg h2]
  ·subst hm
   refine Tot.some ?_
   unfold mkA
   by_cases c:lo=0
   ·subst c
    rw [if_pos rfl]
    simp only
    have e1:IntKind.u64.wrap ((0:Int)-1)=18446744073709551615:=by decide
    rw [e1]
    congr 2<;>omega
   ·rw [if_neg c]
    simp only
    have e1:IntKind.u64.wrap ((lo:Int)-1)=((lo-1:Nat):Int):=by rw [IntKind.wrap_u64];omega
    rw [e1]
    congr 2<;>omega
theorem prev_rk {a:aAddr} (ha:aV a) (h:(PrevF a).2=true):aV (PrevF a).1∧rk (PrevF a).1+1=rk a∧(PrevF a).1.fV6=a.fV6:=by
 unfold PrevF at h ⊢
 by_cases c:nA a=0
 ·rw [if_pos c] at h;cases h
 ·rw [if_neg c]
  have:=aV_lt ha
  refine⟨mkA_V (by omega),?_,rfl⟩
  unfold rk
  simp only [mkA_v6,nA_mkA]
  split<;>omega
theorem prev_none {a b:aAddr} (hv:b.fV6=a.fV6) (h:(PrevF a).2=false):rk a≤rk b:=by
 unfold PrevF at h
 by_cases c:nA a=0
 ·exact(rk_num hv.symm).2 (by omega)
 ·rw [if_neg c] at h;cases h
theorem fam_meet {x y:aAddr_} (hx:aV x.ffrom∧aV x.fto∧x.ffrom.fV6=x.fto.fV6) (hy:aV y.ffrom∧aV y.fto∧y.ffrom.fV6=y.fto.fV6) (h1:¬ rk y.fto<rk x.ffrom) (h2:¬ rk x.fto<rk y.ffrom):x.ffrom.fV6=y.ffrom.fV6:=by
 cases a:x.ffrom.fV6<;>cases b:y.ffrom.fV6
 ·rfl
 ·have e1:=rk4 hx.2.1 (hx.2.2.symm.trans a)
  have e2:=rk6 b
  omega
 ·have e1:=rk6 a
  have e2:=rk4 hy.2.1 (hy.2.2.symm.trans b)
  omega
 ·rfl
structure Cst (x x':aAddr_):Prop where
 f:aV x'.ffrom
 t:x'.fto=x.fto
 v:x'.ffrom.fV6=x.fto.fV6
 le:rk x'.ffrom≤rk x.fto
def fin1 {α:Type} (p:Bool×α×List α):List α:=if p.1=true then p.2.2++[p.2.1] else p.2.2
theorem minus_in {b:List aAddr_} (hb:AVp b) (hk:okI (b.map ivP)) (hl:b.length≤1000000) {x:aAddr_} (hx:aV x.ffrom∧aV x.fto∧x.ffrom.fV6=x.fto.fV6) (hle:rk x.ffrom≤rk x.fto) {acc:List aAddr_} (ha:AVp acc) (hal:acc.length+b.length≤3000000000) :
  Tot (loop (resource_order_minus_L1 b) ((0:Int),x,acc)) (fun p=>AVp (fin1 p)∧(fin1 p).map ivP=acc.map ivP++cutx (rk x.fto) (rk x.ffrom) (b.map ivP)∧p.2.2.length≤acc.length+b.length):=by
 refine Tot.rng b.length (fun k (s:aAddr_×List aAddr_)=>(((k:Nat):Int),s.1,s.2)) (fun k s=>(Cst x s.1∧AVp s.2∧s.2.length≤acc.length+k)∧s.2.map ivP++cutx (rk x.fto) (rk s.1.ffrom) ((b.map ivP).drop k)=acc.map ivP++cutx (rk x.fto) (rk x.ffrom) (b.map ivP)) _ (x,acc) rfl ⟨⟨⟨hx.1,rfl,hx.2.2,hle⟩,ha,Nat.le_refl _⟩,rfl⟩ (fun k s hk2 hs => ?_) (fun s hs => ?_)
 ·obtain⟨⟨⟨c1,c2,c3,c4⟩,c5,c6⟩,c7⟩:=hs
  have hw:w64 ((k:Int)+1)=((k+1:Nat):Int):=by rw [w64_id (by omega) (by omega)];rfl
  have hy:=hb _ (List.getElem_mem hk2)
  have hyk:rk b[k].ffrom≤rk b[k].fto:=hk (ivP b[k]) (List.mem_map_of_mem (List.getElem_mem hk2))
  have hkm:k<(b.map ivP).length:=by simpa using hk2
  rw [List.drop_eq_getElem_cons hkm] at c7
  have hgk:(b.map ivP)[k]=ivP b[k]:=by simp
  rw [hgk] at c7
  have hs1:aV s.1.ffrom∧aV s.1.fto∧s.1.ffrom.fV6=s.1.fto.fV6:=⟨c1,by rw [c2];exact hx.2.1,by rw [c2];exact c3⟩
  unfold resource_order_minus_L1
  refine Tot.iteT (by simpa using hk2) (Tot.jnR (fun m:aAddr_×List aAddr_=>(Cst x m.1∧AVp m.2∧m.2.length≤acc.length+(k+1))∧m.2.map ivP++cutx (rk x.fto) (rk m.1.ffrom) ((b.map ivP).drop (k+1))=acc.map ivP++cutx (rk x.fto) (rk x.ffrom) (b.map ivP)) (fun j hj => ?_) (fun m hm=>Tot.step m (by rw [hw]) hm))
  refine Tot.bindIdx k rfl hk2 (Tot.jnR (fun m:Bool=>m=true↔(rk b[k].fto<rk s.1.ffrom∨rk x.fto<rk b[k].ffrom)) (fun j2 hj2 => ?_) (fun m hm=>Tot.ite (fun h=>hj _ ⟨⟨⟨c1,c2,c3,c4⟩,c5,by simp only;omega⟩,?_⟩) (fun h => ?_)))
  ·refine Tot.bindOf (acmp_eq hy.2.1.1 c1.1) (Tot.ite (fun h=>hj2 _ ⟨fun _ => .inl ((cmpA_lt hy.2.1 c1).1 (of_decide_eq_true h)),fun _=>rfl⟩) (fun h=>Tot.bindOf (acmp_eq hy.1.1 hs1.2.1.1) (hj2 _ ?_)))
   have h:=of_decide_eq_false h
   rw [cmpA_lt hy.2.1 c1] at h
   rw [decide_eq_true_iff,cmpA_pos hy.1 hs1.2.1,c2]
   exact⟨.inr,fun e=>e.resolve_left h⟩
  ·have h:=hm.1 h
   rw [← c7]
   congr 1
   exact(if_pos h).symm
  ·have hno:¬ (rk b[k].fto<rk s.1.ffrom∨rk x.fto<rk b[k].ffrom):=fun e=>by rw [hm.2 e] at h;cases h
   have hfam:s.1.ffrom.fV6=b[k].ffrom.fV6:=fam_meet hs1 hy (fun e=>hno (.inl e)) (fun e=>hno (.inr (by rw [c2] at e;exact e)))
   have e7:s.2.map ivP++((if rk s.1.ffrom<rk b[k].ffrom then [(rk s.1.ffrom,rk b[k].ffrom-1)] else [])++(if rk x.fto≤rk b[k].fto then [] else cutx (rk x.fto) (rk b[k].fto+1) ((b.map ivP).drop (k+1))))=acc.map ivP++cutx (rk x.fto) (rk x.ffrom) (b.map ivP):=by
    rw [← c7]
    congr 1
    exact(if_neg hno).symm
   obtain⟨pv,ep,pvt,pvf⟩:∃ pv,resource_before b[k].ffrom=some pv∧(pv.2=true→aV pv.1∧rk pv.1+1=rk b[k].ffrom∧pv.1.fV6=b[k].ffrom.fV6)∧(pv.2=false→rk b[k].ffrom≤rk s.1.ffrom):=⟨PrevF b[k].ffrom,before_eq hy.1,prev_rk hy.1,prev_none hfam⟩
   obtain⟨nx,en,nxt,nxf⟩:∃ nx,addr_Next b[k].fto=some nx∧(nx.2=true→aV nx.1∧rk nx.1=rk b[k].fto+1∧nx.1.fV6=b[k].fto.fV6)∧(nx.2=false→rk x.fto≤rk b[k].fto):=⟨NextF b[k].fto,anext_eq hy.2.1,next_rk,rk_last hy.2.1 hx.2.1 (by rw [← hy.2.2,← hfam];exact c3)⟩
   refine Tot.bindOf ep (Tot.jnR (fun m:Bool=>m=true↔rk s.1.ffrom<rk b[k].ffrom) (fun j3 hj3=>Tot.ite (fun h3=>Tot.bindOf (acmp_eq c1.1 (pvt h3).1.1) (hj3 _ ?_)) (fun h3=>hj3 _ ?_)) (fun m615 hm3 => ?_))
   ·obtain⟨n1,n2,n3⟩:=pvt h3
    rw [decide_eq_true_iff,cmpA_le c1 n1]
    omega
   ·have:=pvf h3
    exact⟨fun e=>(by cases e),fun e=>by omega⟩
   ·refine Tot.jnR (fun m:List aAddr_=>AVp m∧m.length≤acc.length+k+1∧m.map ivP=s.2.map ivP++(if rk s.1.ffrom<rk b[k].ffrom then [(rk s.1.ffrom,rk b[k].ffrom-1)] else [])) (fun j4 hj4=>Tot.ite (fun h4 => ?_) (fun h4=>hj4 _ ⟨c5,by simp only;omega,?_⟩)) (fun m619 hm4 => ?_)
    ·have h5:=hm3.1 h4
     have h6:pv.2=true:=by
      cases e:pv.2 with
      | true=>rfl
      | false=>have:=pvf e;omega
     obtain⟨n1,n2,n3⟩:=pvt h6
     have hlen:(s.2++[aAddr_.mk s.1.ffrom pv.1]).length=s.2.length+1:=by simp
     refine Tot.chk (limB (show(s.2++[aAddr_.mk s.1.ffrom pv.1]).length≤4000000000 by omega)) (hj4 _ ⟨fun y hy2 => ?_,by simp only;omega,?_⟩)
     ·rcases List.mem_append.1 hy2 with hy2 | hy2
      ·exact c5 y hy2
      ·rw [List.mem_singleton.1 hy2]
       exact⟨c1,n1,hfam.trans n3.symm⟩
     ·rw [if_pos h5,List.map_append]
      have:ivP (aAddr_.mk s.1.ffrom pv.1)=(rk s.1.ffrom,rk b[k].ffrom-1):=by
       unfold ivP
       simp only
       congr 1
       omega
      rw [List.map_cons,List.map_nil,this]
    ·have h5:¬ rk s.1.ffrom<rk b[k].ffrom:=fun e=>by rw [hm3.2 e] at h4;cases h4
     rw [if_neg h5,List.append_nil]
    ·obtain⟨d1,d2,d3⟩:=hm4
     rw [← List.append_assoc,← d3] at e7
     refine Tot.bindOf en (Tot.jnR (fun m:Bool=>m=true↔rk x.fto≤rk b[k].fto) (fun j5 hj5=>Tot.ite (fun h5=>hj5 _ ⟨fun _=>nxf (by simpa using h5),fun _=>rfl⟩) (fun h5=>Tot.bindOf (acmp_eq (nxt (by simpa using h5)).1.1 hs1.2.1.1) (hj5 _ ?_))) (fun m624 hm5=>Tot.ite (fun h5=>Tot.stop ⟨?_,?_,?_⟩) (fun h5=>hj _ ?_)))
     ·obtain⟨n1,n2,n3⟩:=nxt (by simpa using h5)
      rw [decide_eq_true_iff,cmpA_pos n1 hs1.2.1,c2]
      omega
     ·exact d1
     ·have h6:=hm5.1 h5
      rw [if_pos h6,List.append_nil] at e7
      exact e7
     ·show m619.length≤acc.length+b.length
      omega
     ·have h6:¬ rk x.fto≤rk b[k].fto:=fun e=>by rw [hm5.2 e] at h5;cases h5
      have h7:nx.2=true:=by
       cases e:nx.2 with
       | true=>rfl
       | false=>exact(h6 (nxf e)).elim
      obtain⟨n1,n2,n3⟩:=nxt h7
      rw [if_neg h6] at e7
      refine⟨⟨⟨n1,c2,?_,by simp only;omega⟩,d1,by simp only;omega⟩,?_⟩
      ·show nx.1.fV6=_
       rw [n3,← hy.2.2,← hfam];exact c3
      ·simp only
       rw [n2]
       exact e7
 ·obtain⟨⟨⟨c1,c2,c3,c4⟩,c5,c6⟩,c7⟩:=hs
  rw [List.drop_of_length_le (by simp)] at c7
  unfold resource_order_minus_L1
  refine Tot.iteF (by simp) (Tot.last ⟨?_,?_,c6⟩)
  ·intro y hy
   unfold fin1 at hy
   simp only [if_true] at hy
   rcases List.mem_append.1 hy with hy | hy
   ·exact c5 y hy
   ·rw [List.mem_singleton.1 hy]
    exact⟨c1,by rw [c2];exact hx.2.1,by rw [c2];exact c3⟩
  ·rw [← c7]
   unfold fin1
   simp only [if_true]
   rw [List.map_append]
   unfold cutx ivP
   simp only [List.map_cons,List.map_nil]
   rw [c2]
theorem minus_tot {a b:List aAddr_} (ha:AVp a) (hka:okI (a.map ivP)) (hb:AVp b) (hkb:okI (b.map ivP)) (hl:a.length≤1000) (hl2:b.length≤1000000) :
  Tot (resource_order_minus a b) (fun r=>AVp r∧r.map ivP=minusL (a.map ivP) (b.map ivP)∧r.length≤a.length*(b.length+1)):=by
 unfold resource_order_minus
 refine Tot.bindRng a.length (fun k (s:List aAddr_)=>(((k:Nat):Int),s)) (fun k s=>AVp s∧s.map ivP=minusL ((a.map ivP).take k) (b.map ivP)∧s.length≤k*(b.length+1)) (fun r=>AVp r∧r.map ivP=minusL (a.map ivP) (b.map ivP)∧r.length≤a.length*(b.length+1)) [] rfl ⟨fun x hx=>(by cases hx),rfl,Nat.zero_le _⟩ (fun k s hk2 hs => ?_) (fun s hs => ?_) (fun r hr=>Tot.some hr)
 ·obtain⟨s1,s2,s3⟩:=hs
  have hw:w64 ((k:Int)+1)=((k+1:Nat):Int):=by rw [w64_id (by omega) (by omega)];rfl
  have hx:=ha _ (List.getElem_mem hk2)
  have hxk:rk a[k].ffrom≤rk a[k].fto:=hka (ivP a[k]) (List.mem_map_of_mem (List.getElem_mem hk2))
  have hkm:k<(a.map ivP).length:=by simpa using hk2
  have hgk:(a.map ivP)[k]=ivP a[k]:=by simp
  have hb3:k*(b.length+1)≤1000*(b.length+1):=Nat.mul_le_mul_right _ (by omega)
  unfold resource_order_minus_L0
  refine Tot.iteT (by simpa using hk2) (Tot.bindIdx k rfl hk2 (Tot.bindT (minus_in hb hkb hl2 hx hxk s1 (show s.length+b.length≤3000000000 by omega)) fun p hp => ?_))
  obtain⟨p1,p2,p3⟩:=hp
  have p3:p.2.2.length≤s.length+b.length:=p3
  have p2:(fin1 p).map ivP=s.map ivP++cutx (rk a[k].fto) (rk a[k].ffrom) (b.map ivP):=p2
  have fin:AVp (fin1 p)∧(fin1 p).map ivP=minusL ((a.map ivP).take (k+1)) (b.map ivP):=by
   refine⟨p1,?_⟩
   rw [p2,s2,take_snoc hkm,hgk]
   unfold minusL
   rw [List.flatMap_append]
   simp [ivP]
  refine Tot.jnR (fun m:List aAddr_=>AVp m∧m.map ivP=minusL ((a.map ivP).take (k+1)) (b.map ivP)∧m.length≤(k+1)*(b.length+1)) (fun j hj => ?_) (fun m hm=>Tot.step m (by rw [hw]) hm)
  have hm1:(k+1)*(b.length+1)=k*(b.length+1)+(b.length+1):=Nat.succ_mul _ _
  unfold fin1 at fin
  refine Tot.ite (fun h => ?_) (fun h => ?_)
  ·rw [if_pos h] at fin
   exact Tot.chk (limB (by simp only [List.length_append,List.length_cons,List.length_nil];omega)) (hj _ ⟨fin.1,fin.2,by simp only [List.length_append,List.length_cons,List.length_nil];omega⟩)
  ·rw [if_neg (by rw [h];simp)] at fin
   exact hj _ ⟨fin.1,fin.2,by omega⟩
 ·unfold resource_order_minus_L0
  refine Tot.iteF (by simp) (Tot.last ?_)
  rw [List.take_of_length_le (by simp)] at hs
  exact hs
structure Cst2 (x x':resource_part_int_):Prop where
 f:0≤x'.ffrom
 t:x'.fto=x.fto
 le:x'.ffrom≤x.fto
theorem gt_I {x y:Int}:0<(if x<y then (-1:Int) else if y<x then 1 else 0)↔y<x:=by
 split
 ·exact⟨fun h=>by omega,fun h=>by omega⟩
 ·split
  ·exact⟨fun _=>by assumption,fun h=>by omega⟩
  ·exact⟨fun h=>by omega,fun h=>by omega⟩
theorem le_I {x y:Int}:(if x<y then (-1:Int) else if y<x then 1 else 0)≤0↔x≤y:=by
 split
 ·exact⟨fun h=>by omega,fun h=>by omega⟩
 ·split
  ·exact⟨fun h=>by omega,fun h=>by omega⟩
  ·exact⟨fun h=>by omega,fun h=>by omega⟩
theorem minus2_in {b:List resource_part_int_} (hb:SVp b) (hl:b.length≤1000000) {x:resource_part_int_} (hx:okN x.ffrom x.fto) {acc:List resource_part_int_} (ha:SVp acc) (hal:acc.length+b.length≤3000000000) :
  Tot (loop (resource_order_minus_2_L1 b) ((0:Int),x,acc)) (fun p=>SVp (fin1 p)∧(fin1 p).map ivI=acc.map ivI++cutx x.fto.toNat x.ffrom.toNat (b.map ivI)∧p.2.2.length≤acc.length+b.length):=by
 obtain⟨x0,x1,x2⟩:=hx
 refine Tot.rng b.length (fun k (s:resource_part_int_×List resource_part_int_)=>(((k:Nat):Int),s.1,s.2)) (fun k s=>(Cst2 x s.1∧SVp s.2∧s.2.length≤acc.length+k)∧s.2.map ivI++cutx x.fto.toNat s.1.ffrom.toNat ((b.map ivI).drop k)=acc.map ivI++cutx x.fto.toNat x.ffrom.toNat (b.map ivI)) _ (x,acc) rfl ⟨⟨⟨x0,rfl,x1⟩,ha,Nat.le_refl _⟩,rfl⟩ (fun k s hk2 hs => ?_) (fun s hs => ?_)
 ·obtain⟨⟨⟨c1,c2,c4⟩,c5,c6⟩,c7⟩:=hs
  have hw:w64 ((k:Int)+1)=((k+1:Nat):Int):=by rw [w64_id (by omega) (by omega)];rfl
  obtain⟨y0,y1,y2⟩:=hb _ (List.getElem_mem hk2)
  have hkm:k<(b.map ivI).length:=by simpa using hk2
  rw [List.drop_eq_getElem_cons hkm] at c7
  have hgk:(b.map ivI)[k]=(b[k].ffrom.toNat,b[k].fto.toNat):=by simp [ivI]
  rw [hgk] at c7
  unfold resource_order_minus_2_L1
  refine Tot.iteT (by simpa using hk2) (Tot.jnR (fun m:resource_part_int_×List resource_part_int_=>(Cst2 x m.1∧SVp m.2∧m.2.length≤acc.length+(k+1))∧m.2.map ivI++cutx x.fto.toNat m.1.ffrom.toNat ((b.map ivI).drop (k+1))=acc.map ivI++cutx x.fto.toNat x.ffrom.toNat (b.map ivI)) (fun j hj => ?_) (fun m hm=>Tot.step m (by rw [hw]) hm))
  refine Tot.bindIdx k rfl hk2 (Tot.jnR (fun m:Bool=>m=true↔(b[k].fto<s.1.ffrom∨x.fto<b[k].ffrom)) (fun j2 hj2 => ?_) (fun m hm=>Tot.ite (fun h=>hj _ ⟨⟨⟨c1,c2,c4⟩,c5,by simp only;omega⟩,?_⟩) (fun h => ?_)))
  ·refine Tot.bindOf cmp_I (Tot.ite (fun h=>hj2 _ ⟨fun _ => .inl (lt_I.1 (of_decide_eq_true h)),fun _=>rfl⟩) (fun h=>Tot.bindOf cmp_I (hj2 _ ?_)))
   have h:=of_decide_eq_false h
   rw [lt_I] at h
   rw [decide_eq_true_iff,gt_I,c2]
   exact⟨.inr,fun e=>e.resolve_left h⟩
  ·have h:=hm.1 h
   rw [← c7]
   congr 1
   exact(if_pos (by simp only;omega)).symm
  ·have hno:¬ (b[k].fto<s.1.ffrom∨x.fto<b[k].ffrom):=fun e=>by rw [hm.2 e] at h;cases h
   have e7:s.2.map ivI++((if s.1.ffrom.toNat<b[k].ffrom.toNat then [(s.1.ffrom.toNat,b[k].ffrom.toNat-1)] else [])++(if x.fto.toNat≤b[k].fto.toNat then [] else cutx x.fto.toNat (b[k].fto.toNat+1) ((b.map ivI).drop (k+1))))=acc.map ivI++cutx x.fto.toNat x.ffrom.toNat (b.map ivI):=by
    rw [← c7]
    congr 1
    exact(if_neg (by simp only;omega)).symm
   refine Tot.bindOf (show resource_numbers_2 b[k].ffrom=some (b[k].ffrom-1,decide (0<b[k].ffrom)) from by unfold resource_numbers_2;rw [w64_id (by omega) (by omega)]) (Tot.jnR (fun m:Bool=>m=true↔s.1.ffrom<b[k].ffrom) (fun j3 hj3=>Tot.ite (fun h3=>Tot.bindOf cmp_I (hj3 _ ?_)) (fun h3=>hj3 _ ?_)) (fun m615 hm3 => ?_))
   ·rw [decide_eq_true_iff,le_I]
    simp only
    omega
   ·have:=of_decide_eq_false h3
    exact⟨fun e=>(by cases e),fun e=>by omega⟩
   ·refine Tot.jnR (fun m:List resource_part_int_=>SVp m∧m.length≤acc.length+k+1∧m.map ivI=s.2.map ivI++(if s.1.ffrom.toNat<b[k].ffrom.toNat then [(s.1.ffrom.toNat,b[k].ffrom.toNat-1)] else [])) (fun j4 hj4=>Tot.ite (fun h4 => ?_) (fun h4=>hj4 _ ⟨c5,by simp only;omega,?_⟩)) (fun m619 hm4 => ?_)
    ·have h5:=hm3.1 h4
     have hlen:(s.2++[resource_part_int_.mk s.1.ffrom (b[k].ffrom-1)]).length=s.2.length+1:=by simp
     refine Tot.chk (limB (show(s.2++[resource_part_int_.mk s.1.ffrom (b[k].ffrom-1)]).length≤4000000000 by omega)) (hj4 _ ⟨fun y hy2 => ?_,by simp only;omega,?_⟩)
     ·rcases List.mem_append.1 hy2 with hy2 | hy2
      ·exact c5 y hy2
      ·rw [List.mem_singleton.1 hy2]
       exact⟨c1,by simp only;omega,by simp only;omega⟩
     ·rw [if_pos (by omega),List.map_append]
      have:ivI (resource_part_int_.mk s.1.ffrom (b[k].ffrom-1))=(s.1.ffrom.toNat,b[k].ffrom.toNat-1):=by
       unfold ivI
       simp only
       congr 1
       omega
      rw [List.map_cons,List.map_nil,this]
    ·have h5:¬ s.1.ffrom<b[k].ffrom:=fun e=>by rw [hm3.2 e] at h4;cases h4
     rw [if_neg (by omega),List.append_nil]
    ·obtain⟨d1,d2,d3⟩:=hm4
     rw [← List.append_assoc,← d3] at e7
     refine Tot.bindOf (show resource_numbers_1 b[k].fto=some (b[k].fto+1,decide (b[k].fto<4294967295)) from by unfold resource_numbers_1;rw [w64_id (by omega) (by omega)]) (Tot.jnR (fun m:Bool=>m=true↔x.fto≤b[k].fto) (fun j5 hj5=>Tot.ite (fun h5=>hj5 _ ⟨fun _ => ?_,fun _=>rfl⟩) (fun h5=>Tot.bindOf cmp_I (hj5 _ ?_))) (fun m624 hm5=>Tot.ite (fun h5=>Tot.stop ⟨?_,?_,?_⟩) (fun h5=>hj _ ?_)))
     ·simp only [Bool.not_eq_true',decide_eq_false_iff_not] at h5
      omega
     ·rw [decide_eq_true_iff,gt_I,c2]
      simp only
      omega
     ·exact d1
     ·have h6:=hm5.1 h5
      rw [if_pos (by omega),List.append_nil] at e7
      exact e7
     ·show m619.length≤acc.length+b.length
      omega
     ·have h6:¬ x.fto≤b[k].fto:=fun e=>by rw [hm5.2 e] at h5;cases h5
      rw [if_neg (by omega)] at e7
      refine⟨⟨⟨by simp only;omega,c2,by simp only;omega⟩,d1,by simp only;omega⟩,?_⟩
      simp only
      have:(b[k].fto+1).toNat=b[k].fto.toNat+1:=by omega
      rw [this]
      exact e7
 ·obtain⟨⟨⟨c1,c2,c4⟩,c5,c6⟩,c7⟩:=hs
  rw [List.drop_of_length_le (by simp)] at c7
  unfold resource_order_minus_2_L1
  refine Tot.iteF (by simp) (Tot.last ⟨?_,?_,c6⟩)
  ·intro y hy
   unfold fin1 at hy
   simp only [if_true] at hy
   rcases List.mem_append.1 hy with hy | hy
   ·exact c5 y hy
   ·rw [List.mem_singleton.1 hy]
    exact⟨c1,by omega,by omega⟩
  ·rw [← c7]
   unfold fin1
   simp only [if_true]
   rw [List.map_append]
   unfold cutx ivI
   simp only [List.map_cons,List.map_nil]
   rw [c2]
theorem minus2_tot {a b:List resource_part_int_} (ha:SVp a) (hb:SVp b) (hl:a.length≤1000) (hl2:b.length≤1000000) :
  Tot (resource_order_minus_2 a b) (fun r=>SVp r∧r.map ivI=minusL (a.map ivI) (b.map ivI)∧r.length≤a.length*(b.length+1)):=by
 unfold resource_order_minus_2
 refine Tot.bindRng a.length (fun k (s:List resource_part_int_)=>(((k:Nat):Int),s)) (fun k s=>SVp s∧s.map ivI=minusL ((a.map ivI).take k) (b.map ivI)∧s.length≤k*(b.length+1)) (fun r=>SVp r∧r.map ivI=minusL (a.map ivI) (b.map ivI)∧r.length≤a.length*(b.length+1)) [] rfl ⟨fun x hx=>(by cases hx),rfl,Nat.zero_le _⟩ (fun k s hk2 hs => ?_) (fun s hs => ?_) (fun r hr=>Tot.some hr)
 ·obtain⟨s1,s2,s3⟩:=hs
  have hw:w64 ((k:Int)+1)=((k+1:Nat):Int):=by rw [w64_id (by omega) (by omega)];rfl
  have hx:=ha _ (List.getElem_mem hk2)
  have hkm:k<(a.map ivI).length:=by simpa using hk2
  have hgk:(a.map ivI)[k]=ivI a[k]:=by simp
  have hb3:k*(b.length+1)≤1000*(b.length+1):=Nat.mul_le_mul_right _ (by omega)
  unfold resource_order_minus_2_L0
  refine Tot.iteT (by simpa using hk2) (Tot.bindIdx k rfl hk2 (Tot.bindT (minus2_in hb hl2 hx s1 (show s.length+b.length≤3000000000 by omega)) fun p hp => ?_))
  obtain⟨p1,p2,p3⟩:=hp
  have p3:p.2.2.length≤s.length+b.length:=p3
  have p2:(fin1 p).map ivI=s.map ivI++cutx a[k].fto.toNat a[k].ffrom.toNat (b.map ivI):=p2
  have fin:SVp (fin1 p)∧(fin1 p).map ivI=minusL ((a.map ivI).take (k+1)) (b.map ivI):=by
   refine⟨p1,?_⟩
   rw [p2,s2,take_snoc hkm,hgk]
   unfold minusL
   rw [List.flatMap_append]
   simp [ivI]
  refine Tot.jnR (fun m:List resource_part_int_=>SVp m∧m.map ivI=minusL ((a.map ivI).take (k+1)) (b.map ivI)∧m.length≤(k+1)*(b.length+1)) (fun j hj => ?_) (fun m hm=>Tot.step m (by rw [hw]) hm)
  have hm1:(k+1)*(b.length+1)=k*(b.length+1)+(b.length+1):=Nat.succ_mul _ _
  unfold fin1 at fin
  refine Tot.ite (fun h => ?_) (fun h => ?_)
  ·rw [if_pos h] at fin
   exact Tot.chk (limB (by simp only [List.length_append,List.length_cons,List.length_nil];omega)) (hj _ ⟨fin.1,fin.2,by simp only [List.length_append,List.length_cons,List.length_nil];omega⟩)
  ·rw [if_neg (by rw [h];simp)] at fin
   exact hj _ ⟨fin.1,fin.2,by omega⟩
 ·unfold resource_order_minus_2_L0
  refine Tot.iteF (by simp) (Tot.last ?_)
  rw [List.take_of_length_le (by simp)] at hs
  exact hs
theorem setminus_tot {a b:resource_set} (ha:AVp a.faddrs) (va:VL (a.faddrs.map ivP)) (sa:SVp a.fasns) (hb:AVp b.faddrs) (vb:VL (b.faddrs.map ivP)) (sb:SVp b.fasns) (l1:a.faddrs.length≤1000) (l2:b.faddrs.length≤1000000) (l3:a.fasns.length≤1000) (l4:b.fasns.length≤1000000) :
  Tot (resource_set_minus a b) (fun r=>(AVp r.faddrs∧r.faddrs.map ivP=minusL (a.faddrs.map ivP) (b.faddrs.map ivP)∧r.faddrs.length≤a.faddrs.length*(b.faddrs.length+1))∧(SVp r.fasns∧r.fasns.map ivI=minusL (a.fasns.map ivI) (b.fasns.map ivI)∧r.fasns.length≤a.fasns.length*(b.fasns.length+1))):=by
 unfold resource_set_minus
 exact Tot.bindT (minus_tot ha va.1 hb vb.1 l1 l2) fun r hr=>Tot.bindT (minus2_tot sa sb l3 l4) fun s hs=>Tot.some ⟨hr,hs⟩
def cA (r:aResources) (n:Nat):Prop:=inI n (r.fAddrs.map ivA)
def cS (r:aResources) (n:Nat):Prop:=inI n (r.fASNs.map ivS)
structure SetIs (A:List aRange) (S:List aSpan) (p q:Nat→Prop):Prop where
 av:AVr A
 va:VL (A.map ivA)
 ia:∀ n,inI n (A.map ivA)↔p n
 sv:SVr S
 vs:VL (S.map ivS)
 is:∀ n,inI n (S.map ivS)↔q n
structure Is (r:aResources) (p q:Nat→Prop) (n m:Nat):Prop where
 v:VRes r
 a:∀ n,cA r n↔p n
 s:∀ n,cS r n↔q n
 la:r.fAddrs.length≤n
 ls:r.fASNs.length≤m
theorem near_iff {a b:aAddr} (ha:aV a) (hb:aV b):(0≤cmpA a b∨((NextF a).2=true∧(NextF a).1=b))↔¬ rk a+1<rk b:=by
 rw [cmpA_nonneg ha hb]
 cases h:(NextF a).2
 ·have:=next_none ha hb h
  constructor
  ·rintro(h1 | ⟨h1,_⟩)
   ·omega
   ·cases h1
  ·intro h1;left;omega
 ·obtain⟨n1,n2,_⟩:=next_rk h
  constructor
  ·rintro(h1 | ⟨_,h1⟩)
   ·omega
   ·rw [← h1,n2];omega
  ·intro h1
   by_cases c:rk b≤rk a
   ·exact .inl c
   ·exact .inr ⟨rfl,rk_inj n1 hb (by omega)⟩
theorem rvalid21_L0 {r:aResources} (hr:RRes r) (hl:r.fAddrs.length≤1000000) :
  Tot (loop (xref21_Valid_L0 r) (0:Int)) (fun x=>match x with | .inl _=>¬ (AVr r.fAddrs∧VL (r.fAddrs.map ivA)) | .inr _=>AVr r.fAddrs∧VL (r.fAddrs.map ivA)):=by
 refine Tot.rng r.fAddrs.length (fun k (_:Unit)=>((k:Nat):Int)) (fun k _=>AVr (r.fAddrs.take k)∧VL ((r.fAddrs.map ivA).take k)) _ () rfl ⟨fun x hx=>by simp at hx,by simpa using vl_nil⟩ (fun k u hk hb => ?_) (fun u hb => ?_)
 ·have hw:w64 ((k:Int)+1)=((k+1:Nat):Int):=by rw [w64_id (by omega) (by omega)];rfl
  obtain⟨b1,b2⟩:=hb
  have hkm:k<(r.fAddrs.map ivA).length:=by simpa using hk
  have hR:=hr _ (List.getElem_mem hk)
  have hgk:(r.fAddrs.map ivA)[k]=ivA r.fAddrs[k]:=by simp
  have stp:=vl_step hkm
  rw [hgk] at stp
  have bad:∀ {P:Prop},¬ P→((AVr r.fAddrs∧VL (r.fAddrs.map ivA))→P)→¬ (AVr r.fAddrs∧VL (r.fAddrs.map ivA)):=fun h k e=>h (k e)
  have one:AVr r.fAddrs∧VL (r.fAddrs.map ivA)→aV r.fAddrs[k].fFrom∧aV r.fAddrs[k].fTo∧r.fAddrs[k].fFrom.fV6=r.fAddrs[k].fTo.fV6∧rk r.fAddrs[k].fFrom≤rk r.fAddrs[k].fTo:=fun e=>by
   obtain⟨h1,h2,h3⟩:=e.1 _ (List.getElem_mem hk)
   exact⟨h1,h2,h3,(stp.1 (vl_take e.2 (k+1))).2.1⟩
  unfold xref21_Valid_L0
  refine Tot.iteT (by simpa using hk) (Tot.jnR (fun _:Unit=>AVr (r.fAddrs.take (k+1))∧VL ((r.fAddrs.map ivA).take (k+1))) (fun j hj => ?_) (fun m hm=>Tot.step () (by rw [hw]) hm))
  refine Tot.bindIdx k rfl hk (Tot.jnR (fun m:Bool=>m=false↔(aV r.fAddrs[k].fFrom∧aV r.fAddrs[k].fTo∧r.fAddrs[k].fFrom.fV6=r.fAddrs[k].fTo.fV6∧rk r.fAddrs[k].fFrom≤rk r.fAddrs[k].fTo)) (fun j2 hj2 => ?_) (fun m hm=>Tot.ite (fun h=>Tot.stop fun e => ?_) (fun h => ?_)))
  ·rw [ravalid_eq,ravalid_eq]
   refine Tot.bindT (avalid_eq _ hR.1) fun b hb=>Tot.ite (fun h=>hj2 _ ⟨fun e=>(by cases e),fun e => ?_⟩) (fun h=>Tot.bindT (avalid_eq _ hR.2) fun c hc=>Tot.ite (fun h2=>hj2 _ ⟨fun e=>(by cases e),fun e => ?_⟩) (fun h2 => ?_))
   ·rw [hb.2 e.1] at h;cases h
   ·rw [hc.2 e.2.1,e.2.2.1] at h2
    simp at h2
   ·have f1:=hb.1 (by simpa using h)
    simp only [Bool.or_eq_false_iff,Bool.not_eq_false',bne_eq_false_iff_eq] at h2
    have f2:=hc.1 h2.1
    refine Tot.bindOf (racmp_eq hR.1 hR.2) (hj2 _ ?_)
    rw [decide_eq_false_iff_not,cmpA_pos f1 f2]
    exact⟨fun e=>⟨f1,f2,h2.2,by omega⟩,fun e=>by have:=e.2.2.2;omega⟩
  ·rw [hm.2 (one e)] at h;cases h
  ·obtain⟨f1,f2,f3,f4⟩:=hm.1 h
   have avk:AVr (r.fAddrs.take (k+1)):=fun x hx=>by
    rw [take_snoc hk] at hx
    rcases List.mem_append.1 hx with hx | hx
    ·exact b1 x hx
    ·rw [List.mem_singleton.1 hx];exact⟨f1,f2,f3⟩
   refine Tot.ite (fun h0=>hj () ⟨avk,stp.2 ⟨b2,f4,fun m e => ?_⟩⟩) (fun h0 => ?_)
   ·have:=beq_iff_eq.1 h0
    omega
   ·have h0:¬ ((k:Int)=0):=beq_eq_false_iff_ne.1 h0
    obtain⟨m,rfl⟩:∃ m,k=m+1:=⟨k-1,by omega⟩
    have hm0:m<r.fAddrs.length:=by omega
    have hw2:w64 (((m+1:Nat):Int)-1)=(m:Int):=by rw [w64_id (by omega) (by omega)];omega
    obtain⟨p1,p2,p3⟩:=b1 r.fAddrs[m] (List.mem_take_iff_getElem.2 ⟨m,by omega,rfl⟩)
    have key:=near_iff p2 f1
    rw [hw2]
    refine Tot.bindIdx m rfl hm0 (Tot.bindOf (rnext_eq p2) (Tot.jnR (fun q:Bool=>q=true↔¬ rk r.fAddrs[m].fTo+1<rk r.fAddrs[m+1].fFrom) (fun j3 hj3=>Tot.bindOf (racmp_eq p2.1 f1.1) (Tot.ite (fun h3=>hj3 _ ⟨fun _=>key.1 (.inl (of_decide_eq_true h3)),fun _=>rfl⟩) (fun h3=>hj3 _ ?_))) (fun q hq=>Tot.ite (fun h3=>Tot.stop fun e=>hq.1 h3 ?_) (fun h3=>hj () ⟨avk,stp.2 ⟨b2,f4,fun i e => ?_⟩⟩))))
    ·have hae:∀ x y:aAddr,((x.fV6==y.fV6)&&((x.fHi==y.fHi)&&((x.fLo==y.fLo)&&true)))=aeq x y:=fun _ _=>rfl
     rw [hae,Bool.and_eq_true,aeq_iff,← key]
     exact⟨.inr,fun e=>e.resolve_left (of_decide_eq_false h3)⟩
    ·have:=(stp.1 (vl_take e.2 (m+1+1))).2.2 m rfl
     simpa [ivA] using this
    ·have:i=m:=by omega
     subst this
     have:rk r.fAddrs[i].fTo+1<rk r.fAddrs[i+1].fFrom:=by
      by_cases c:rk r.fAddrs[i].fTo+1<rk r.fAddrs[i+1].fFrom
      ·exact c
      ·rw [hq.2 c] at h3;cases h3
     simpa [ivA] using this
 ·unfold xref21_Valid_L0
  refine Tot.iteF (by simp) (Tot.last ?_)
  rw [List.take_length,List.take_of_length_le (by simp)] at hb
  exact hb
theorem rvalid21_L1 {r:aResources} (hl:r.fASNs.length≤1000000) :
  Tot (loop (xref21_Valid_L1 r) (0:Int)) (fun x=>match x with | .inl _=>¬ (SVr r.fASNs∧VL (r.fASNs.map ivS)) | .inr _=>SVr r.fASNs∧VL (r.fASNs.map ivS)):=by
 refine Tot.rng r.fASNs.length (fun k (_:Unit)=>((k:Nat):Int)) (fun k _=>SVr (r.fASNs.take k)∧VL ((r.fASNs.map ivS).take k)) _ () rfl ⟨fun x hx=>by simp at hx,by simpa using vl_nil⟩ (fun k u hk hb => ?_) (fun u hb => ?_)
 ·have hw:w64 ((k:Int)+1)=((k+1:Nat):Int):=by rw [w64_id (by omega) (by omega)];rfl
  obtain⟨b1,b2⟩:=hb
  have hkm:k<(r.fASNs.map ivS).length:=by simpa using hk
  have hgk:(r.fASNs.map ivS)[k]=ivS r.fASNs[k]:=by simp
  have stp:=vl_step hkm
  rw [hgk] at stp
  unfold xref21_Valid_L1
  refine Tot.iteT (by simpa using hk) (Tot.bindIdx k rfl hk (Tot.jnR (fun m:Bool=>(m=true→¬ (SVr r.fASNs∧VL (r.fASNs.map ivS)))∧(m=false→SVr (r.fASNs.take (k+1))∧VL ((r.fASNs.map ivS).take (k+1)))) (fun j hj => ?_) (fun m hm=>Tot.ite (fun h=>Tot.stop (hm.1 h)) (fun h=>Tot.step () (by rw [hw]) (hm.2 h)))))
  refine Tot.ite (fun h=>hj _ ⟨fun _ e => ?_,fun e=>(by cases e)⟩) (fun h => ?_)
  ·obtain⟨h1,h2,h3⟩:=e.1 _ (List.getElem_mem hk)
   simp only [Bool.or_eq_true,decide_eq_true_eq] at h
   omega
  ·simp only [Bool.or_eq_false_iff,decide_eq_false_iff_not] at h
   have f:okN r.fASNs[k].fFrom r.fASNs[k].fTo:=⟨by omega,by omega,by omega⟩
   have svk:SVr (r.fASNs.take (k+1)):=fun x hx=>by
    rw [take_snoc hk] at hx
    rcases List.mem_append.1 hx with hx | hx
    ·exact b1 x hx
    ·rw [List.mem_singleton.1 hx];exact f
   obtain⟨f0,f1,f2⟩:=f
   have f4:(ivS r.fASNs[k]).1≤(ivS r.fASNs[k]).2:=by unfold ivS;simp only;omega
   refine Tot.ite (fun h0 => ?_) (fun h0=>hj _ ⟨fun e=>(by cases e),fun _=>⟨svk,stp.2 ⟨b2,f4,fun m e => ?_⟩⟩⟩)
   ·have h0:=of_decide_eq_true h0
    obtain⟨m,rfl⟩:∃ m,k=m+1:=⟨k-1,by omega⟩
    have hm0:m<r.fASNs.length:=by omega
    have hw2:w64 (((m+1:Nat):Int)-1)=(m:Int):=by rw [w64_id (by omega) (by omega)];omega
    obtain⟨p1,p2,p3⟩:=b1 r.fASNs[m] (List.mem_take_iff_getElem.2 ⟨m,by omega,rfl⟩)
    rw [hw2]
    refine Tot.bindIdx m rfl hm0 (hj _ ?_)
    rw [w64_id (n:=r.fASNs[m+1].fFrom-1) (by omega) (by omega)]
    constructor
    ·intro h3 e
     have h3:=of_decide_eq_true h3
     have:=(stp.1 (vl_take e.2 (m+1+1))).2.2 m rfl
     have:(ivS r.fASNs[m]).2+1<(ivS r.fASNs[m+1]).1:=by simpa using this
     unfold ivS at this
     simp only at this
     omega
    ·intro h3
     have h3:=of_decide_eq_false h3
     refine⟨svk,stp.2 ⟨b2,f4,fun i e => ?_⟩⟩
     have:i=m:=by omega
     subst this
     have:(ivS r.fASNs[i]).2+1<(ivS r.fASNs[i+1]).1:=by
      unfold ivS
      simp only
      omega
     simpa using this
   ·have h0:=of_decide_eq_false h0
    omega
 ·unfold xref21_Valid_L1
  refine Tot.iteF (by simp) (Tot.last ?_)
  rw [List.take_length,List.take_of_length_le (by simp)] at hb
  exact hb
theorem rvalid21 {r:aResources} (hr:RRes r) (h1:r.fAddrs.length≤1000000) (h2:r.fASNs.length≤1000000):Tot (xref21_Valid r) (fun b=>b=true↔VRes r):=by
 unfold xref21_Valid
 refine Tot.bindT (rvalid21_L0 hr h1) fun x hx => ?_
 cases x with
 | inl _=>exact Tot.some ⟨fun e=>(by cases e),fun e=>(hx ⟨e.av,e.va⟩).elim⟩
 | inr _ =>
  have hx:AVr r.fAddrs∧VL (r.fAddrs.map ivA):=hx
  refine Tot.bindT (rvalid21_L1 h2) fun y hy => ?_
  cases y with
  | inl _=>exact Tot.some ⟨fun e=>(by cases e),fun e=>(hy ⟨e.sv,e.vs⟩).elim⟩
  | inr _ =>
   have hy:SVr r.fASNs∧VL (r.fASNs.map ivS):=hy
   refine Tot.some ?_
   rw [Bool.and_eq_true,decide_eq_true_iff,decide_eq_true_iff]
   exact⟨fun e=>⟨hx.1,hx.2,hy.1,hy.2,by omega,by omega⟩,fun e=>⟨by have:=e.la;omega,by have:=e.ls;omega⟩⟩
theorem nil_iff {l:List Iv} (h:okI l):l=[]↔∀ n,¬ inI n l:=by
 constructor
 ·rintro rfl n
  exact inI_nil
 ·intro k
  cases l with
  | nil=>rfl
  | cons x l=>exact(k x.1 ⟨x,List.mem_cons_self ..,Nat.le_refl _,h x (List.mem_cons_self ..)⟩).elim
theorem map_nil_iff {α β:Type} {f:α→β} {l:List α}:l.length=0↔l.map f=[]:=by
 cases l<;>simp
theorem covers_tot {a b:aResources} (ha:VRes a) (hb:VRes b):Tot (resource_Covers a b) (fun c=>c=true↔(∀ n,cA b n→cA a n)∧(∀ n,cS b n→cS a n)):=by
 have l1:=ha.la
 have l2:=ha.ls
 have l3:=hb.la
 have l4:=hb.ls
 have b1:b.fAddrs.length*(a.fAddrs.length+1)≤256*257:=Nat.mul_le_mul l3 (by omega)
 have b2:b.fASNs.length*(a.fASNs.length+1)≤256*257:=Nat.mul_le_mul l4 (by omega)
 unfold resource_Covers
 refine Tot.bindOf (of_eq b (by omega) (by omega)) (Tot.bindOf (of_eq a (by omega) (by omega)) ?_)
 refine Tot.bindT (setminus_tot (avp_r hb.av) (by simp only;rw [map_paA];exact hb.va) (svp_r hb.sv) (avp_r ha.av) (by simp only;rw [map_paA];exact ha.va) (svp_r ha.sv) (by simp;omega) (by simp;omega) (by simp;omega) (by simp;omega)) fun r hr => ?_
 obtain⟨⟨r1,r2,r3⟩,r4,r5,r6⟩:=hr
 simp only [map_paA,map_paS,List.length_map] at r2 r3 r5 r6
 obtain⟨m1,m2,m3⟩:=minusL_ok ha.va hb.va
 obtain⟨k1,k2,k3⟩:=minusL_ok ha.vs hb.vs
 refine Tot.some ?_
 rw [beq_iff_eq,w64_id (by omega) (by omega)]
 have e1:r.faddrs.length=0↔∀ n,cA b n→cA a n:=by
  rw [map_nil_iff (f:=ivP),r2,nil_iff m1.1]
  constructor
  ·intro h n hn
   by_cases c:cA a n
   ·exact c
   ·exact(h n ((m2 n).2 ⟨hn,c⟩)).elim
  ·intro h n hn
   obtain⟨h1,h2⟩:=(m2 n).1 hn
   exact h2 (h n h1)
 have e2:r.fasns.length=0↔∀ n,cS b n→cS a n:=by
  rw [map_nil_iff (f:=ivI),r5,nil_iff k1.1]
  constructor
  ·intro h n hn
   by_cases c:cS a n
   ·exact c
   ·exact(h n ((k2 n).2 ⟨hn,c⟩)).elim
  ·intro h n hn
   obtain⟨h1,h2⟩:=(k2 n).1 hn
   exact h2 (h n h1)
 rw [← e1,← e2]
 omega
theorem great_tot {a b:aAddr} (ha:aV a) (hb:aV b):∃ x,xref21_greater a b=some x∧(x=a∨x=b)∧rk x=max (rk a) (rk b):=by
 unfold xref21_greater
 suffices h:Tot ((xref01_Cmp a b).bind fun r1=>if (decide (r1<(0:Int)))=true then some b else some a) (fun x=>(x=a∨x=b)∧rk x=max (rk a) (rk b)) from h
 refine Tot.bindOf (racmp_eq ha.1 hb.1) (Tot.ite (fun h=>Tot.some ⟨.inr rfl,?_⟩) (fun h=>Tot.some ⟨.inl rfl,?_⟩))
 ·have:=(cmpA_lt ha hb).1 (of_decide_eq_true h);omega
 ·have h:=of_decide_eq_false h
  rw [cmpA_lt ha hb] at h;omega
theorem less_tot {a b:aAddr} (ha:aV a) (hb:aV b):∃ x,xref21_lesser a b=some x∧(x=a∨x=b)∧rk x=min (rk a) (rk b):=by
 unfold xref21_lesser
 suffices h:Tot ((xref01_Cmp a b).bind fun r1=>if (decide (r1<(0:Int)))=true then some a else some b) (fun x=>(x=a∨x=b)∧rk x=min (rk a) (rk b)) from h
 refine Tot.bindOf (racmp_eq ha.1 hb.1) (Tot.ite (fun h=>Tot.some ⟨.inl rfl,?_⟩) (fun h=>Tot.some ⟨.inr rfl,?_⟩))
 ·have:=(cmpA_lt ha hb).1 (of_decide_eq_true h);omega
 ·have h:=of_decide_eq_false h
  rw [cmpA_lt ha hb] at h;omega
theorem cut1_snoc (x y:Iv):∀ l:List Iv,cut1 x (l++[y])=cut1 x l++(if max x.1 y.1≤min x.2 y.2 then [(max x.1 y.1,min x.2 y.2)] else [])
 | []=>by simp [cut1]
 | z :: l=>by
  rw [List.cons_append]
  unfold cut1
  rw [cut1_snoc x y l,List.append_assoc]
theorem cut1_len (x:Iv):∀ l:List Iv,(cut1 x l).length≤l.length
 | []=>Nat.le_refl _
 | z :: l=>by
  have:=cut1_len x l
  unfold cut1
  rw [List.length_append,List.length_cons]
  split
  ·simp only [List.length_cons,List.length_nil];omega
  ·simp only [List.length_nil];omega
theorem cuts_snoc (l b:List Iv) (x:Iv):cutsL (l++[x]) b=cutsL l b++cut1 x b:=by
 unfold cutsL
 rw [List.flatMap_append]
 simp
theorem rcut_in {a1:aResources} (hb:AVr a1.fAddrs) (hl:a1.fAddrs.length≤1000000) {x:aRange} (hx:aV x.fFrom∧aV x.fTo∧x.fFrom.fV6=x.fTo.fV6) {acc:List aRange} (ha:AVr acc) (hal:acc.length+a1.fAddrs.length≤3000000000) :
  Tot (loop (xref21_Intersect_L1 a1 x) ((0:Int),acc)) (fun o=>AVr o∧o.map ivA=acc.map ivA++cut1 (ivA x) (a1.fAddrs.map ivA)):=by
 refine Tot.rng a1.fAddrs.length (fun k (s:List aRange)=>(((k:Nat):Int),s)) (fun k s=>AVr s∧s.map ivA=acc.map ivA++cut1 (ivA x) ((a1.fAddrs.map ivA).take k)) _ acc rfl ⟨ha,by simp [cut1]⟩ (fun k s hk hs => ?_) (fun s hs => ?_)
 ·obtain⟨s1,s2⟩:=hs
  have hw:w64 ((k:Int)+1)=((k+1:Nat):Int):=by rw [w64_id (by omega) (by omega)];rfl
  have hy:=hb _ (List.getElem_mem hk)
  have hkm:k<(a1.fAddrs.map ivA).length:=by simpa using hk
  have hgk:(a1.fAddrs.map ivA)[k]=ivA a1.fAddrs[k]:=by simp
  have hsl:s.length≤acc.length+k:=by
   have h1:=congrArg List.length s2
   rw [List.length_map,List.length_append,List.length_map] at h1
   have h2:=cut1_len (ivA x) ((a1.fAddrs.map ivA).take k)
   rw [List.length_take] at h2
   omega
  obtain⟨f,ef,f1,f2⟩:=great_tot hx.1 hy.1
  obtain⟨t,et,t1,t2⟩:=less_tot hx.2.1 hy.2.1
  have fv:aV f:=by rcases f1 with rfl | rfl;exact hx.1;exact hy.1
  have tv:aV t:=by rcases t1 with rfl | rfl;exact hx.2.1;exact hy.2.1
  unfold xref21_Intersect_L1
  refine Tot.iteT (by simpa using hk) (Tot.bindIdx k rfl hk (Tot.bindOf ef (Tot.bindOf et ?_)))
  have fam:rk f≤rk t→x.fFrom.fV6=a1.fAddrs[k].fFrom.fV6:=fun h=>by
   refine fam_meet (x:=aAddr_.mk x.fFrom x.fTo) (y:=aAddr_.mk a1.fAddrs[k].fFrom a1.fAddrs[k].fTo) hx hy ?_ ?_
   ·simp only;omega
   ·simp only;omega
  refine Tot.jnR (fun m:Bool=>m=true↔rk f≤rk t) (fun j hj=>Tot.ite (fun h=>Tot.bindOf (racmp_eq fv.1 tv.1) (hj _ ?_)) (fun h=>hj _ ?_)) (fun m hm => ?_)
  ·rw [decide_eq_true_iff,cmpA_le fv tv]
  ·exact⟨fun e=>(by cases e),fun e=>by rw [fam e] at h;simp at h⟩
  ·have key:acc.map ivA++cut1 (ivA x) ((a1.fAddrs.map ivA).take (k+1))=s.map ivA++(if max (ivA x).1 (ivA a1.fAddrs[k]).1≤min (ivA x).2 (ivA a1.fAddrs[k]).2 then [(max (ivA x).1 (ivA a1.fAddrs[k]).1,min (ivA x).2 (ivA a1.fAddrs[k]).2)] else []):=by
    rw [take_snoc hkm,hgk,cut1_snoc,← List.append_assoc,← s2]
   refine Tot.jnR (fun o:List aRange=>AVr o∧o.map ivA=s.map ivA++(if max (ivA x).1 (ivA a1.fAddrs[k]).1≤min (ivA x).2 (ivA a1.fAddrs[k]).2 then [(max (ivA x).1 (ivA a1.fAddrs[k]).1,min (ivA x).2 (ivA a1.fAddrs[k]).2)] else [])) (fun j hj=>Tot.ite (fun h => ?_) (fun h=>hj _ ⟨s1,?_⟩)) (fun o ho=>Tot.step o (by rw [hw]) ⟨ho.1,by rw [key];exact ho.2⟩)
   ·have h:=hm.1 h
    have hlen:(s++[aRange.mk f t]).length=s.length+1:=by simp
    refine Tot.chk (limB (show(s++[aRange.mk f t]).length≤4000000000 by omega)) (hj _ ⟨fun z hz => ?_,?_⟩)
    ·rcases List.mem_append.1 hz with e | e
     ·exact s1 z e
     ·rw [List.mem_singleton.1 e]
      refine⟨fv,tv,?_⟩
      have hf:=fam h
      simp only
      rcases f1 with rfl | rfl<;>rcases t1 with rfl | rfl
      ·exact hx.2.2
      ·rw [hf];exact hy.2.2
      ·rw [← hf];exact hx.2.2
      ·exact hy.2.2
    ·rw [List.map_append]
     have e1:(ivA x).1=rk x.fFrom:=rfl
     have e2:(ivA x).2=rk x.fTo:=rfl
     have e3:(ivA a1.fAddrs[k]).1=rk a1.fAddrs[k].fFrom:=rfl
     have e4:(ivA a1.fAddrs[k]).2=rk a1.fAddrs[k].fTo:=rfl
     rw [e1,e2,e3,e4,← f2,← t2,if_pos h]
     rfl
   ·have h:¬ rk f≤rk t:=fun e=>by rw [hm.2 e] at h;cases h
    rw [f2,t2] at h
    exact(by rw [if_neg (show ¬ max (ivA x).1 (ivA a1.fAddrs[k]).1≤min (ivA x).2 (ivA a1.fAddrs[k]).2 from h),List.append_nil])
 ·unfold xref21_Intersect_L1
  refine Tot.iteF (by simp) (Tot.last ?_)
  rw [List.take_of_length_le (by simp)] at hs
  exact hs
theorem rcut_tot {a0 a1:aResources} (ha:AVr a0.fAddrs) (hb:AVr a1.fAddrs) (hl0:a0.fAddrs.length≤1000) (hl:a1.fAddrs.length≤1000) :
  Tot (loop (xref21_Intersect_L0 a0 a1) ((0:Int),([]:List aRange))) (fun o=>AVr o∧o.map ivA=cutsL (a0.fAddrs.map ivA) (a1.fAddrs.map ivA)):=by
 refine Tot.rng a0.fAddrs.length (fun k (s:List aRange)=>(((k:Nat):Int),s)) (fun k s=>AVr s∧s.map ivA=cutsL ((a0.fAddrs.map ivA).take k) (a1.fAddrs.map ivA)) _ [] rfl ⟨fun x hx=>(by cases hx),rfl⟩ (fun k s hk hs => ?_) (fun s hs => ?_)
 ·obtain⟨s1,s2⟩:=hs
  have hw:w64 ((k:Int)+1)=((k+1:Nat):Int):=by rw [w64_id (by omega) (by omega)];rfl
  have hx:=ha _ (List.getElem_mem hk)
  have hkm:k<(a0.fAddrs.map ivA).length:=by simpa using hk
  have hgk:(a0.fAddrs.map ivA)[k]=ivA a0.fAddrs[k]:=by simp
  have hsl:s.length≤1000000:=by
   have h1:=congrArg List.length s2
   rw [List.length_map] at h1
   rw [h1]
   have:∀ l:List Iv,l.length≤1000→(cutsL l (a1.fAddrs.map ivA)).length≤l.length*1000:=fun l=>by
    induction l with
    | nil=>intro _;simp [cutsL]
    | cons z l ih =>
     intro h
     simp only [List.length_cons] at h
     have e:cutsL (z :: l) (a1.fAddrs.map ivA)=cut1 z (a1.fAddrs.map ivA)++cutsL l (a1.fAddrs.map ivA):=by unfold cutsL;rw [List.flatMap_cons]
     have:=ih (by omega)
     have h5:=cut1_len z (a1.fAddrs.map ivA)
     rw [List.length_map] at h5
     rw [e,List.length_append,List.length_cons]
     omega
   have h6:=this ((a0.fAddrs.map ivA).take k) (by rw [List.length_take,List.length_map];omega)
   rw [List.length_take,List.length_map] at h6
   have h7:min k a0.fAddrs.length≤1000:=by omega
   exact Nat.le_trans h6 (Nat.mul_le_mul_right 1000 h7)
  unfold xref21_Intersect_L0
  refine Tot.iteT (by simpa using hk) (Tot.bindIdx k rfl hk (Tot.bindT (rcut_in hb (by omega) hx s1 (show s.length+a1.fAddrs.length≤3000000000 by omega)) fun o ho=>Tot.step o (by rw [hw]) ⟨ho.1,?_⟩))
  rw [take_snoc hkm,hgk,cuts_snoc,← s2]
  exact ho.2
 ·unfold xref21_Intersect_L0
  refine Tot.iteF (by simp) (Tot.last ?_)
  rw [List.take_of_length_le (by simp)] at hs
  exact hs
def flo (v:Bool):Nat:=if v=true then 4294967297 else 0
def fhi (v:Bool):Nat:=if v=true then 4294967297+(2 ^ 128-1) else 4294967295
theorem fam_in {a:aAddr} (ha:aV a):flo a.fV6≤rk a∧rk a≤fhi a.fV6:=by
 have h:=aV_lt ha
 unfold flo fhi rk
 cases c:a.fV6
 ·rw [c] at h
  have e:(2:Nat) ^ wid false=4294967296:=by decide
  simp only [Bool.false_eq_true,if_false]
  omega
 ·rw [c] at h
  have e:(2:Nat) ^ wid true=340282366920938463463374607431768211456:=by decide
  have e2:(2:Nat) ^ 128=340282366920938463463374607431768211456:=by decide
  simp only [if_true]
  omega
theorem first_rk (v:Bool):rk (aAddr.mk v 0 0)=flo v:=by
 have:nA (aAddr.mk v 0 0)=0:=p0_n v
 unfold rk flo
 rw [this]
theorem last_rk (v:Bool):rk (LastF (P0 v))=fhi v:=by
 have e:nA (P0 v).fAddr=0:=p0_n v
 have e2:fr (P0 v)=wid v:=by
  have h1:=fr_eq (p0_V v)
  have e4:(P0 v).fLen=0:=rfl
  have e5:(P0 v).fAddr.fV6=v:=rfl
  rw [e4,e5] at h1
  omega
 have h:=last_num (p0_V v)
 rw [e,e2] at h
 have hv:(LastF (P0 v)).fV6=v:=by unfold LastF;rw [mkA_v6];rfl
 unfold rk fhi
 rw [hv,h]
 cases v
 ·have e3:(2:Nat) ^ wid false=4294967296:=by decide
  simp only [Bool.false_eq_true,if_false]
  omega
 ·have e3:(2:Nat) ^ wid true=2 ^ 128:=by decide
  simp only [if_true]
  rw [e3]
theorem rbefore_eq {a:aAddr} (ha:aV a) (h:nA a≠0):xref21_before a=some (PrevF a).1:=by
 have e:=before_eq ha
 unfold resource_before at e
 unfold xref21_before
 have hz:((a.fHi==(0:Int))&&(a.fLo==(0:Int)))=false:=by
  cases c:((a.fHi==(0:Int))&&(a.fLo==(0:Int))) with
  | false=>rfl
  | true =>
   simp only [Bool.and_eq_true,beq_iff_eq] at c
   exact(h (by unfold nA;rw [c.1,c.2];rfl)).elim
 rw [hz,if_neg (by simp)] at e
 unfold jn at e ⊢
 by_cases c:(a.fLo==0)=true
 ·simp only [c,if_true] at e ⊢
  rw [← Option.some.inj e]
 ·simp only [c,if_false,Bool.false_eq_true] at e ⊢
  rw [← Option.some.inj e]
structure Out (v:Bool) (bs o:List Iv) (F:Nat):Prop where
 vl:VL o
 is:∀ n,inI n o↔(flo v≤n∧n<F)∧¬ inI n bs
 gap:∀ z∈o,z.2+1<F
 bd:∀ z∈o,flo v≤z.1∧z.2≤fhi v
 past:∀ n,flo v≤n→n≤fhi v→inI n bs→n<F
theorem out_start (v:Bool):Out v [] [] (flo v) :=
 ⟨vl_nil,fun n=>⟨fun e=>(inI_nil e).elim,fun e=>by omega⟩,fun z hz=>(by cases hz),fun z hz=>(by cases hz),fun n _ _ e=>(inI_nil e).elim⟩
theorem out_skip {v:Bool} {bs o:List Iv} {F:Nat} (h:Out v bs o F) (hF:F≤fhi v+1) {y:Iv} (hy:∀ n,flo v≤n→n≤fhi v→¬ (y.1≤n∧n≤y.2)):Out v (bs++[y]) o F:=by
 refine⟨h.vl,fun n => ?_,h.gap,h.bd,fun n h1 h2 h3 => ?_⟩
 ·rw [h.is,inI_app,inI_one]
  constructor
  ·rintro⟨e1,e2⟩
   exact⟨e1,fun k=>k.elim e2 fun k=>hy n e1.1 (by omega) k⟩
  ·rintro⟨e1,e2⟩
   exact⟨e1,fun k=>e2 (.inl k)⟩
 ·rw [inI_app,inI_one] at h3
  exact h3.elim (h.past n h1 h2) fun k=>(hy n h1 h2 k).elim
theorem out_next {v:Bool} {bs o:List Iv} {F:Nat} (h:Out v bs o F) {y:Iv} (hy:y.1≤y.2) (h1:F≤y.1) (h2:flo v≤y.1) (h3:y.2≤fhi v) (hlo:flo v≤F):Out v (bs++[y]) (o++if F<y.1 then [(F,y.1-1)] else []) (y.2+1):=by
 have P:VL (if F<y.1 then [(F,y.1-1)] else [])∧(∀ n,inI n (if F<y.1 then [(F,y.1-1)] else [])↔F≤n∧n<y.1)∧(∀ z∈(if F<y.1 then [(F,y.1-1)] else []),z.1=F∧z.2+1=y.1):=by
  by_cases d:F<y.1
  ·rw [if_pos d]
   refine⟨vl_one (by simp only;omega),fun n => ?_,fun z hz => ?_⟩
   ·rw [inI_one];simp only;omega
   ·rw [List.mem_singleton.1 hz]
    refine⟨rfl,?_⟩
    show y.1-1+1=y.1
    omega
  ·rw [if_neg d]
   exact⟨vl_nil,fun n=>⟨fun e=>(inI_nil e).elim,fun e=>by omega⟩,fun z hz=>(by cases hz)⟩
 generalize (if F<y.1 then [(F,y.1-1)] else [])=p at P
 obtain⟨p1,p2,p3⟩:=P
 refine⟨vl_app h.vl p1 fun a ha b hb => ?_,fun n => ?_,fun z hz => ?_,fun z hz => ?_,fun n k1 k2 k3 => ?_⟩
 ·have:=h.gap a ha
  have:=(p3 b hb).1
  omega
 ·rw [inI_app,h.is,p2,inI_app,inI_one]
  constructor
  ·rintro(⟨e1,e2⟩ | e)
   ·exact⟨by omega,fun k=>k.elim e2 fun k=>by omega⟩
   ·refine⟨by omega,fun k=>k.elim (fun k => ?_) fun k=>by omega⟩
    have:=h.past n (by omega) (by omega) k
    omega
  ·rintro⟨e1,e2⟩
   rcases Nat.lt_or_ge n F with g | g
   ·exact .inl ⟨⟨e1.1,g⟩,fun k=>e2 (.inl k)⟩
   ·right
    refine⟨g,?_⟩
    rcases Nat.lt_or_ge n y.1 with g2 | g2
    ·exact g2
    ·exact(e2 (.inr ⟨g2,by omega⟩)).elim
 ·rcases List.mem_append.1 hz with hz | hz
  ·have:=h.gap z hz;omega
  ·have:=(p3 z hz).2;omega
 ·rcases List.mem_append.1 hz with hz | hz
  ·exact h.bd z hz
  ·have:=p3 z hz;omega
 ·rw [inI_app,inI_one] at k3
  exact k3.elim (fun k=>by have:=h.past n k1 k2 k;omega) fun k=>by omega
theorem out_in {b:List aRange} (hb:AVr b) (hv:VL (b.map ivA)) (hl:b.length≤1000) (v:Bool) {acc:List aRange} (ha:AVr acc) (hal:acc.length≤2000) :
  Tot (loop (xref21_outside_L1 b v) (true,(0:Int),aAddr.mk v 0 0,acc)) (fun p=>∃ (o:List aRange) (F:Nat),p.2.2=acc++o∧AVr o∧Out v (b.map ivA) (o.map ivA) F∧o.length≤b.length∧(p.1=true→aV p.2.1∧p.2.1.fV6=v∧rk p.2.1=F)∧(p.1=false→F=fhi v+1)):=by
 have hz:aV (aAddr.mk v 0 0):=(p0_V v).addr
 refine Tot.rng b.length (fun k (s:Bool×aAddr×List aRange)=>(s.1,((k:Nat):Int),s.2.1,s.2.2)) (fun k s=>∃ (o:List aRange) (F:Nat),s.2.2=acc++o∧AVr o∧Out v ((b.map ivA).take k) (o.map ivA) F∧o.length≤k∧(s.1=true→aV s.2.1∧s.2.1.fV6=v∧rk s.2.1=F)∧(s.1=false→F=fhi v+1)∧(flo v≤F∧F≤fhi v+1)∧∀ j (hj:j<b.length),k≤j→b[j].fFrom.fV6=v→F≤rk b[j].fFrom) _ (true,aAddr.mk v 0 0,acc) rfl ⟨[],flo v,by simp,fun x hx=>(by cases hx),by simpa using out_start v,Nat.le_refl _,fun _=>⟨hz,rfl,first_rk v⟩,fun e=>(by cases e),⟨Nat.le_refl _,by unfold flo fhi;split<;>omega⟩,fun j hj _ e => ?_⟩ (fun k s hk hs => ?_) (fun s hs => ?_)
 ·have:=(fam_in (hb _ (List.getElem_mem hj)).1).1
  rw [e] at this
  exact this
 ·obtain⟨o,F,s1,s2,s3,s4,s5,s6,s7,s8⟩:=hs
  have hw:w64 ((k:Int)+1)=((k+1:Nat):Int):=by rw [w64_id (by omega) (by omega)];rfl
  have hy:=hb _ (List.getElem_mem hk)
  have hkm:k<(b.map ivA).length:=by simpa using hk
  have hgk:(b.map ivA)[k]=ivA b[k]:=by simp
  have hyk:rk b[k].fFrom≤rk b[k].fTo:=hv.1 (ivA b[k]) (List.mem_map_of_mem (List.getElem_mem hk))
  have tk:(b.map ivA).take (k+1)=(b.map ivA).take k++[ivA b[k]]:=by rw [take_snoc hkm,hgk]
  have later:∀ j (hj:j<b.length),k+1≤j→rk b[k].fTo+1<rk b[j].fFrom:=fun j hj h=>by
   have:=List.pairwise_iff_getElem.1 hv.2 k j (by simpa using hk) (by simpa using hj) (by omega)
   simpa [ivA] using this
  obtain⟨sb,sf,sa⟩:=s
  simp only at s1 s5 s6
  unfold xref21_outside_L1
  refine Tot.iteT (by simpa using hk) (Tot.jnR (fun m:Bool×aAddr×List aRange=>∃ (o:List aRange) (F:Nat),m.2.2=acc++o∧AVr o∧Out v ((b.map ivA).take (k+1)) (o.map ivA) F∧o.length≤k+1∧(m.1=true→aV m.2.1∧m.2.1.fV6=v∧rk m.2.1=F)∧(m.1=false→F=fhi v+1)∧(flo v≤F∧F≤fhi v+1)∧∀ j (hj:j<b.length),k+1≤j→b[j].fFrom.fV6=v→F≤rk b[j].fFrom) (fun j hj => ?_) (fun m hm=>Tot.step m (by rw [hw]) hm))
  rw [tk] at hj
  refine Tot.bindIdx k rfl hk (Tot.ite (fun h => ?_) (fun h => ?_))
  ·have hne:¬ b[k].fFrom.fV6=v:=by simpa using h
   refine hj _ ⟨o,F,s1,s2,out_skip s3 s7.2 fun n h1 h2 h3 => ?_,by omega,s5,s6,s7,fun i hi h1 h2=>s8 i hi (by omega) h2⟩
   have e1:(ivA b[k]).1=rk b[k].fFrom:=rfl
   have e2:(ivA b[k]).2=rk b[k].fTo:=rfl
   rw [e1,e2] at h3
   have g1:=fam_in hy.1
   have g2:=fam_in hy.2.1
   rw [← hy.2.2] at g2
   unfold flo fhi at *
   cases c:b[k].fFrom.fV6<;>rw [c] at g1 g2 hne<;>cases v<;>first | exact(hne rfl).elim | (simp only [Bool.false_eq_true,if_false,if_true] at *;omega)
  ·have he:b[k].fFrom.fV6=v:=by simpa using h
   have hF:=s8 k hk (Nat.le_refl _) he
   have g1:=fam_in hy.1
   have g2:=fam_in hy.2.1
   rw [← hy.2.2] at g2
   rw [he] at g1 g2
   have hop:sb=true:=by
    cases sb with
    | true=>rfl
    | false=>have:=s6 rfl;omega
   obtain⟨f1,f2,f3⟩:=s5 hop
   have O:=out_next s3 (y:=ivA b[k]) hyk hF g1.1 g2.2 s7.1
   obtain⟨nx,en,nxt,nxf⟩:∃ nx,xref01_Next b[k].fTo=some nx∧(nx.2=true→aV nx.1∧rk nx.1=rk b[k].fTo+1∧nx.1.fV6=b[k].fTo.fV6)∧(nx.2=false→rk b[k].fTo=fhi v):=⟨NextF b[k].fTo,rnext_eq hy.2.1,next_rk,fun e=>by
    have h1:=rk_last hy.2.1 (lastF_V (p0_V v)) (by rw [← hy.2.2,he];unfold LastF;rw [mkA_v6];rfl) e
    rw [last_rk] at h1
    omega⟩
   refine Tot.bindOf (racmp_eq f1.1 hy.1.1) (Tot.jnR (fun m:List aRange=>∃ o2:List aRange,m=acc++o2∧AVr o2∧o2.map ivA=o.map ivA++(if F<rk b[k].fFrom then [(F,rk b[k].fFrom-1)] else [])∧o2.length≤k+1) (fun j2 hj2=>Tot.ite (fun h2 => ?_) (fun h2=>hj2 _ ⟨o,s1,s2,?_,by omega⟩)) (fun m hm => ?_))
   ·have h2:=(cmpA_lt f1 hy.1).1 (of_decide_eq_true h2)
    rw [f3] at h2
    have hn0:nA b[k].fFrom≠0:=by
     intro e
     have:rk b[k].fFrom=flo v:=by
      rw [← he]
      unfold rk flo
      rw [e]
     omega
    obtain⟨pv,ep,pvt⟩:∃ pv,xref21_before b[k].fFrom=some pv∧(aV pv∧rk pv+1=rk b[k].fFrom∧pv.fV6=b[k].fFrom.fV6):=⟨_,rbefore_eq hy.1 hn0,prev_rk hy.1 (by unfold PrevF;rw [if_neg hn0])⟩
    have hlen:(sa++[aRange.mk sf pv]).length=acc.length+o.length+1:=by rw [s1];simp;omega
    refine Tot.bindOf ep (Tot.chk (limB (show(sa++[aRange.mk sf pv]).length≤4000000000 by omega)) (hj2 _ ⟨o++[aRange.mk sf pv],by simp only;rw [s1,List.append_assoc],fun z hz2 => ?_,?_,by simp;omega⟩))
    ·rcases List.mem_append.1 hz2 with e | e
     ·exact s2 z e
     ·rw [List.mem_singleton.1 e]
      exact⟨f1,pvt.1,by simp only;rw [f2,pvt.2.2,he]⟩
    ·rw [List.map_append,if_pos h2]
     have:ivA (aRange.mk sf pv)=(F,rk b[k].fFrom-1):=by
      unfold ivA
      simp only
      rw [f3]
      congr 1
      omega
     rw [List.map_cons,List.map_nil,this]
   ·have h2:=of_decide_eq_false h2
    rw [cmpA_lt f1 hy.1,f3] at h2
    rw [if_neg h2,List.append_nil]
   ·obtain⟨o2,m1,m2,m3,m4⟩:=hm
    refine Tot.bindOf en (hj _ ⟨o2,rk b[k].fTo+1,m1,m2,by rw [m3];exact O,by omega,fun e => ?_,fun e=>by rw [nxf e],⟨by omega,by omega⟩,fun i hi h1 h2=>by have:=later i hi h1;omega⟩)
    obtain⟨n1,n2,n3⟩:=nxt e
    exact⟨n1,by rw [n3,← hy.2.2];exact he,n2⟩
 ·obtain⟨o,F,s1,s2,s3,s4,s5,s6,s7,s8⟩:=hs
  rw [List.take_of_length_le (by simp)] at s3
  unfold xref21_outside_L1
  exact Tot.iteF (by simp) (Tot.last ⟨o,F,s1,s2,s3,s4,s5,s6⟩)
structure Whole (v:Bool) (bs o:List Iv):Prop where
 vl:VL o
 is:∀ n,inI n o↔(flo v≤n∧n≤fhi v)∧¬ inI n bs
 bd:∀ z∈o,flo v≤z.1∧z.2≤fhi v
theorem out_fam {b:List aRange} (hb:AVr b) (hv:VL (b.map ivA)) (hl:b.length≤1000) (v:Bool) {acc:List aRange} (ha:AVr acc) (hal:acc.length≤2000) {P:List aRange⊕(Int×List aRange)→Prop} {nxt:List aRange→Option (List aRange⊕(Int×List aRange))}
  (h:∀ o:List aRange,AVr o→Whole v (b.map ivA) (o.map ivA)→o.length≤b.length+1→Tot (nxt (acc++o)) P) :
  Tot ((loop (xref21_outside_L1 b v) (true,(0:Int),aAddr.mk v 0 0,acc)).bind fun p=>jn nxt fun j=>if p.1=true then (xref02_Last (P0 v)).bind fun r=>chk (decide ((p.2.2++[aRange.mk p.2.1 r]).length≤LIM)) (j (p.2.2++[aRange.mk p.2.1 r])) else j p.2.2) P:=by
 refine Tot.bindT (out_in hb hv hl v ha hal) ?_
 rintro p ⟨o,F,p1,p2,p3,p4,p5,p6⟩
 refine Tot.jn (Tot.ite (fun hp => ?_) (fun hp => ?_))
 ·obtain⟨f1,f2,f3⟩:=p5 hp
  have hlv:aV (LastF (P0 v)):=lastF_V (p0_V v)
  have hle:F≤fhi v:=by
   have:=(fam_in f1).2
   rw [f2,f3] at this
   exact this
  have hlo:flo v≤F:=by
   have:=(fam_in f1).1
   rw [f2,f3] at this
   exact this
  refine Tot.bindOf (rlast_eq (p0_V v)) ?_
  have e1:p.2.2++[aRange.mk p.2.1 (LastF (P0 v))]=acc++(o++[aRange.mk p.2.1 (LastF (P0 v))]):=by rw [p1,List.append_assoc]
  rw [e1]
  have hlen:(acc++(o++[aRange.mk p.2.1 (LastF (P0 v))])).length≤4000000000:=by simp;omega
  have e2:(o++[aRange.mk p.2.1 (LastF (P0 v))]).map ivA=o.map ivA++[(F,fhi v)]:=by
   rw [List.map_append]
   have:ivA (aRange.mk p.2.1 (LastF (P0 v)))=(F,fhi v):=by
    show(rk p.2.1,rk (LastF (P0 v)))=_
    rw [f3,last_rk]
   rw [List.map_cons,List.map_nil,this]
  refine Tot.chk (limB hlen) (h _ (fun z hz => ?_) ?_ (by simp;omega))
  ·rcases List.mem_append.1 hz with e | e
   ·exact p2 z e
   ·rw [List.mem_singleton.1 e]
    refine⟨f1,hlv,?_⟩
    show p.2.1.fV6=(LastF (P0 v)).fV6
    rw [f2]
    unfold LastF
    rw [mkA_v6]
    rfl
  ·rw [e2]
   refine⟨vl_app p3.vl (vl_one hle) fun x hx y hy => ?_,fun n => ?_,fun z hz => ?_⟩
   ·rw [List.mem_singleton.1 hy];exact p3.gap x hx
   ·rw [inI_app,inI_one,p3.is]
    simp only
    constructor
    ·rintro(⟨k1,k2⟩ | k)
     ·exact⟨by omega,k2⟩
     ·refine⟨by omega,fun e => ?_⟩
      have:=p3.past n (by omega) (by omega) e
      omega
    ·rintro⟨k1,k2⟩
     rcases Nat.lt_or_ge n F with g | g
     ·exact .inl ⟨⟨k1.1,g⟩,k2⟩
     ·exact .inr ⟨g,k1.2⟩
   ·rcases List.mem_append.1 hz with e | e
    ·exact p3.bd z e
    ·rw [List.mem_singleton.1 e];exact⟨hlo,Nat.le_refl _⟩
 ·have hF:=p6 hp
  rw [p1]
  refine h o p2 ⟨p3.vl,fun n => ?_,p3.bd⟩ (by omega)
  rw [p3.is,hF]
  constructor
  ·rintro⟨k1,k2⟩;exact⟨by omega,k2⟩
  ·rintro⟨k1,k2⟩;exact⟨by omega,k2⟩
theorem outside_tot {b:List aRange} (hb:AVr b) (hv:VL (b.map ivA)) (hl:b.length≤400):Tot (xref21_outside b) (fun o=>AVr o∧VL (o.map ivA)∧(∀ n,inI n (o.map ivA)↔((flo false≤n∧n≤fhi false)∨(flo true≤n∧n≤fhi true))∧¬ inI n (b.map ivA))∧o.length≤1000):=by
 unfold xref21_outside
 refine Tot.bindRng 2 (fun k (s:List aRange)=>(((k:Nat):Int),s)) (fun k s=>(k=0∧s=[])∨(k=1∧AVr s∧Whole false (b.map ivA) (s.map ivA)∧s.length≤b.length+1)∨(k=2∧∃ o4 o6,s=o4++o6∧AVr o4∧AVr o6∧Whole false (b.map ivA) (o4.map ivA)∧Whole true (b.map ivA) (o6.map ivA)∧o4.length≤b.length+1∧o6.length≤b.length+1)) (fun o=>AVr o∧VL (o.map ivA)∧(∀ n,inI n (o.map ivA)↔((flo false≤n∧n≤fhi false)∨(flo true≤n∧n≤fhi true))∧¬ inI n (b.map ivA))∧o.length≤1000) [] rfl (.inl ⟨rfl,rfl⟩) (fun k s hk hs => ?_) (fun s hs => ?_) (fun o ho=>Tot.some ho)
 ·unfold xref21_outside_L0
  rcases hs with ⟨rfl,rfl⟩ | ⟨rfl,s1,s2,s3⟩ | ⟨rfl,_⟩
  ·refine Tot.iteT rfl (Tot.bindIdx 0 rfl (by decide) (out_fam hb hv (by omega) false (fun x hx=>(by cases hx)) (by simp) fun o h1 h2 h3 => ?_))
   exact Tot.step o (by rw [w64_id (by omega) (by omega)];rfl) (.inr (.inl ⟨rfl,h1,h2,h3⟩))
  ·refine Tot.iteT rfl (Tot.bindIdx 1 rfl (by decide) (out_fam hb hv (by omega) true s1 (by omega) fun o h1 h2 h3 => ?_))
   exact Tot.step (s++o) (by rw [w64_id (by omega) (by omega)];rfl) (.inr (.inr ⟨rfl,s,o,rfl,s1,h1,s2,h2,s3,h3⟩))
  ·omega
 ·rcases hs with ⟨h,_⟩ | ⟨h,_⟩ | ⟨_,o4,o6,rfl,a4,a6,w4,w6,l4,l6⟩
  ·cases h
  ·cases h
  ·unfold xref21_outside_L0
   refine Tot.iteF rfl (Tot.last ⟨fun x hx=>(List.mem_append.1 hx).elim (a4 x) (a6 x),?_,fun n => ?_,by rw [List.length_append];omega⟩)
   ·rw [List.map_append]
    refine vl_app w4.vl w6.vl fun x hx y hy => ?_
    have h1:=(w4.bd x hx).2
    have h2:=(w6.bd y hy).1
    have e1:fhi false=4294967295:=rfl
    have e2:flo true=4294967297:=rfl
    omega
   ·rw [List.map_append,inI_app,w4.is,w6.is]
    constructor
    ·rintro(h | h)
     ·exact⟨.inl h.1,h.2⟩
     ·exact⟨.inr h.1,h.2⟩
    ·rintro⟨h | h,k⟩
     ·exact .inl ⟨h,k⟩
     ·exact .inr ⟨h,k⟩
theorem max_nat (a b:Int):(maxI a b).toNat=max a.toNat b.toNat:=by unfold maxI;split<;>omega
theorem min_nat (a b:Int):(minI a b).toNat=min a.toNat b.toNat:=by unfold minI;split<;>omega
theorem piece_S {x y:aSpan} (hx:okN x.fFrom x.fTo) (hy:okN y.fFrom y.fTo):(maxI x.fFrom y.fFrom≤minI x.fTo y.fTo↔max (ivS x).1 (ivS y).1≤min (ivS x).2 (ivS y).2)∧(maxI x.fFrom y.fFrom≤minI x.fTo y.fTo→okN (maxI x.fFrom y.fFrom) (minI x.fTo y.fTo))∧ivS (aSpan.mk (maxI x.fFrom y.fFrom) (minI x.fTo y.fTo))=(max (ivS x).1 (ivS y).1,min (ivS x).2 (ivS y).2):=by
 obtain⟨x0,x1,x2⟩:=hx
 obtain⟨y0,y1,y2⟩:=hy
 refine⟨?_,fun h=>⟨?_,h,?_⟩,?_⟩
 ·unfold ivS maxI minI
  simp only
  split<;>split<;>omega
 ·unfold maxI;split<;>omega
 ·unfold minI;split<;>omega
 ·unfold ivS
  simp only
  rw [max_nat,min_nat]
theorem stepS {x y:aSpan} (hx:okN x.fFrom x.fTo) (hy:okN y.fFrom y.fTo) {s acc:List aSpan} {bs:List Iv} (s1:SVr s) (s2:s.map ivS=acc.map ivS++cut1 (ivS x) bs) {S X:Type} {P:X⊕S→Prop} {rest:List aSpan→Option (X⊕S)} (hl:s.length≤1000000)
  (h:∀ o,SVr o→o.map ivS=acc.map ivS++cut1 (ivS x) (bs++[ivS y])→Tot (rest o) P) :
  Tot (jn rest fun j=>if (decide ((maxI x.fFrom y.fFrom)≤(minI x.fTo y.fTo)))=true then chk (decide ((s++([(aSpan.mk (maxI x.fFrom y.fFrom) (minI x.fTo y.fTo))]:List aSpan)).length≤LIM)) (j (s++([(aSpan.mk (maxI x.fFrom y.fFrom) (minI x.fTo y.fTo))]:List aSpan))) else j s) P:=by
 obtain⟨k1,k2,k3⟩:=piece_S hx hy
 refine Tot.jn (Tot.ite (fun c => ?_) (fun c=>h s s1 ?_))
 ·have c:=of_decide_eq_true c
  refine Tot.chk (limB (by simp;omega)) (h _ (fun z hz => ?_) ?_)
  ·rcases List.mem_append.1 hz with e | e
   ·exact s1 z e
   ·rw [List.mem_singleton.1 e];exact k2 c
  ·rw [List.map_append,List.map_cons,List.map_nil,k3,s2,cut1_snoc,if_pos (k1.1 c),List.append_assoc]
 ·have c:=of_decide_eq_false c
  rw [s2,cut1_snoc,if_neg (fun e=>c (k1.2 e)),List.append_nil]
theorem cut_len {s acc:List aSpan} {x:Iv} {bs:List Iv} (s2:s.map ivS=acc.map ivS++cut1 x bs):s.length≤acc.length+bs.length:=by
 have h1:=congrArg List.length s2
 rw [List.length_map,List.length_append,List.length_map] at h1
 have h2:=cut1_len x bs
 omega
theorem rcutS_in {a1:aResources} (hb:SVr a1.fASNs) (hl:a1.fASNs.length≤1000) {x:aSpan} (hx:okN x.fFrom x.fTo) {acc:List aSpan} (ha:SVr acc) (hal:acc.length≤900000) :
  Tot (loop (xref21_Intersect_L3 a1 x) ((0:Int),acc)) (fun o=>SVr o∧o.map ivS=acc.map ivS++cut1 (ivS x) (a1.fASNs.map ivS)):=by
 refine Tot.rng a1.fASNs.length (fun k (s:List aSpan)=>(((k:Nat):Int),s)) (fun k s=>SVr s∧s.map ivS=acc.map ivS++cut1 (ivS x) ((a1.fASNs.map ivS).take k)) _ acc rfl ⟨ha,by simp [cut1]⟩ (fun k s hk hs => ?_) (fun s hs => ?_)
 ·obtain⟨s1,s2⟩:=hs
  have hw:w64 ((k:Int)+1)=((k+1:Nat):Int):=by rw [w64_id (by omega) (by omega)];rfl
  have hkm:k<(a1.fASNs.map ivS).length:=by simpa using hk
  have hgk:(a1.fASNs.map ivS)[k]=ivS a1.fASNs[k]:=by simp
  have hsl:=cut_len s2
  rw [List.length_take] at hsl
  unfold xref21_Intersect_L3
  refine Tot.iteT (by simpa using hk) (Tot.bindIdx k rfl hk (stepS hx (hb _ (List.getElem_mem hk)) s1 s2 (by omega) fun o o1 o2=>Tot.step o (by rw [hw]) ⟨o1,?_⟩))
  rw [take_snoc hkm,hgk]
  exact o2
 ·unfold xref21_Intersect_L3
  refine Tot.iteF (by simp) (Tot.last ?_)
  rw [List.take_of_length_le (by simp)] at hs
  exact hs
theorem rcutS2_in {m:List aSpan} (hb:SVr m) (hl:m.length≤1000) {x:aSpan} (hx:okN x.fFrom x.fTo) {acc:List aSpan} (ha:SVr acc) (hal:acc.length≤900000) :
  Tot (loop (xref21_Minus_L4 m x) ((0:Int),acc)) (fun o=>SVr o∧o.map ivS=acc.map ivS++cut1 (ivS x) (m.map ivS)):=by
 refine Tot.rng m.length (fun k (s:List aSpan)=>(((k:Nat):Int),s)) (fun k s=>SVr s∧s.map ivS=acc.map ivS++cut1 (ivS x) ((m.map ivS).take k)) _ acc rfl ⟨ha,by simp [cut1]⟩ (fun k s hk hs => ?_) (fun s hs => ?_)
 ·obtain⟨s1,s2⟩:=hs
  have hw:w64 ((k:Int)+1)=((k+1:Nat):Int):=by rw [w64_id (by omega) (by omega)];rfl
  have hkm:k<(m.map ivS).length:=by simpa using hk
  have hgk:(m.map ivS)[k]=ivS m[k]:=by simp
  have hsl:=cut_len s2
  rw [List.length_take] at hsl
  unfold xref21_Minus_L4
  refine Tot.iteT (by simpa using hk) (Tot.bindIdx k rfl hk (Tot.bindIdx k rfl hk (stepS hx (hb _ (List.getElem_mem hk)) s1 s2 (by omega) fun o o1 o2=>Tot.step o (by rw [hw]) ⟨o1,?_⟩)))
  rw [take_snoc hkm,hgk]
  exact o2
 ·unfold xref21_Minus_L4
  refine Tot.iteF (by simp) (Tot.last ?_)
  rw [List.take_of_length_le (by simp)] at hs
  exact hs
theorem cuts_len (b:List Iv):∀ l:List Iv,(cutsL l b).length≤l.length*b.length
 | []=>by simp [cutsL]
 | z :: l=>by
  have e:cutsL (z :: l) b=cut1 z b++cutsL l b:=by unfold cutsL;rw [List.flatMap_cons]
  have:=cuts_len b l
  have h5:=cut1_len z b
  rw [e,List.length_append,List.length_cons,Nat.succ_mul]
  omega
theorem lenS {s:List aSpan} {l b:List Iv} (h:s.map ivS=cutsL l b) {n m:Nat} (h1:l.length≤n) (h2:b.length≤m):s.length≤n*m:=by
 have h3:=congrArg List.length h
 rw [List.length_map] at h3
 rw [h3]
 exact Nat.le_trans (cuts_len b l) (Nat.mul_le_mul h1 h2)
theorem rcutS_tot {a0 a1:aResources} (ha:SVr a0.fASNs) (hb:SVr a1.fASNs) (hl0:a0.fASNs.length≤300) (hl:a1.fASNs.length≤1000) :
  Tot (loop (xref21_Intersect_L2 a0 a1) ((0:Int),([]:List aSpan))) (fun o=>SVr o∧o.map ivS=cutsL (a0.fASNs.map ivS) (a1.fASNs.map ivS)):=by
 refine Tot.rng a0.fASNs.length (fun k (s:List aSpan)=>(((k:Nat):Int),s)) (fun k s=>SVr s∧s.map ivS=cutsL ((a0.fASNs.map ivS).take k) (a1.fASNs.map ivS)) _ [] rfl ⟨fun x hx=>(by cases hx),rfl⟩ (fun k s hk hs => ?_) (fun s hs => ?_)
 ·obtain⟨s1,s2⟩:=hs
  have hw:w64 ((k:Int)+1)=((k+1:Nat):Int):=by rw [w64_id (by omega) (by omega)];rfl
  have hkm:k<(a0.fASNs.map ivS).length:=by simpa using hk
  have hgk:(a0.fASNs.map ivS)[k]=ivS a0.fASNs[k]:=by simp
  have hsl:=lenS s2 (n:=300) (m:=1000) (by rw [List.length_take,List.length_map];omega) (by rw [List.length_map];exact hl)
  unfold xref21_Intersect_L2
  refine Tot.iteT (by simpa using hk) (Tot.bindIdx k rfl hk (Tot.bindT (rcutS_in hb hl (ha _ (List.getElem_mem hk)) s1 (show s.length≤900000 by omega)) fun o ho=>Tot.step o (by rw [hw]) ⟨ho.1,?_⟩))
  rw [take_snoc hkm,hgk,cuts_snoc,← s2]
  exact ho.2
 ·unfold xref21_Intersect_L2
  refine Tot.iteF (by simp) (Tot.last ?_)
  rw [List.take_of_length_le (by simp)] at hs
  exact hs
theorem rcutS2_tot {a0:aResources} {m:List aSpan} (ha:SVr a0.fASNs) (hb:SVr m) (hl0:a0.fASNs.length≤300) (hl:m.length≤1000) :
  Tot (loop (xref21_Minus_L3 a0 m) ((0:Int),([]:List aSpan))) (fun o=>SVr o∧o.map ivS=cutsL (a0.fASNs.map ivS) (m.map ivS)):=by
 refine Tot.rng a0.fASNs.length (fun k (s:List aSpan)=>(((k:Nat):Int),s)) (fun k s=>SVr s∧s.map ivS=cutsL ((a0.fASNs.map ivS).take k) (m.map ivS)) _ [] rfl ⟨fun x hx=>(by cases hx),rfl⟩ (fun k s hk hs => ?_) (fun s hs => ?_)
 ·obtain⟨s1,s2⟩:=hs
  have hw:w64 ((k:Int)+1)=((k+1:Nat):Int):=by rw [w64_id (by omega) (by omega)];rfl
  have hkm:k<(a0.fASNs.map ivS).length:=by simpa using hk
  have hgk:(a0.fASNs.map ivS)[k]=ivS a0.fASNs[k]:=by simp
  have hsl:=lenS s2 (n:=300) (m:=1000) (by rw [List.length_take,List.length_map];omega) (by rw [List.length_map];exact hl)
  unfold xref21_Minus_L3
  refine Tot.iteT (by simpa using hk) (Tot.bindIdx k rfl hk (Tot.bindT (rcutS2_in hb hl (ha _ (List.getElem_mem hk)) s1 (show s.length≤900000 by omega)) fun o ho=>Tot.step o (by rw [hw]) ⟨ho.1,?_⟩))
  rw [take_snoc hkm,hgk,cuts_snoc,← s2]
  exact ho.2
 ·unfold xref21_Minus_L3
  refine Tot.iteF (by simp) (Tot.last ?_)
  rw [List.take_of_length_le (by simp)] at hs
  exact hs
theorem outS_tot {a1:aResources} (hb:SVr a1.fASNs) (hv:VL (a1.fASNs.map ivS)) (hl:a1.fASNs.length≤400):Tot (loop (xref21_Minus_L0 a1) ((0:Int),(0:Int),([]:List aSpan))) (fun p=>SVr p.2∧Out false (a1.fASNs.map ivS) (p.2.map ivS) p.1.toNat∧0≤p.1∧p.1≤4294967296∧p.2.length≤a1.fASNs.length):=by
 refine Tot.rng a1.fASNs.length (fun k (s:Int×List aSpan)=>(s.1,((k:Nat):Int),s.2)) (fun k s=>SVr s.2∧Out false ((a1.fASNs.map ivS).take k) (s.2.map ivS) s.1.toNat∧0≤s.1∧s.1≤4294967296∧s.2.length≤k∧∀ j (hj:j<a1.fASNs.length),k≤j→s.1≤a1.fASNs[j].fFrom) _ (0,[]) rfl ⟨fun x hx=>(by cases hx),(by rw [List.take_zero];exact out_start false),Int.le_refl _,by decide,Nat.le_refl _,fun j hj _=>(hb _ (List.getElem_mem hj)).1⟩ (fun k s hk hs => ?_) (fun s hs => ?_)
 ·obtain⟨s1,s2,s3,s4,s5,s6⟩:=hs
  have hw:w64 ((k:Int)+1)=((k+1:Nat):Int):=by rw [w64_id (by omega) (by omega)];rfl
  obtain⟨y0,y1,y2⟩:=hb _ (List.getElem_mem hk)
  have hkm:k<(a1.fASNs.map ivS).length:=by simpa using hk
  have hgk:(a1.fASNs.map ivS)[k]=(a1.fASNs[k].fFrom.toNat,a1.fASNs[k].fTo.toNat):=by simp [ivS]
  have hF:=s6 k hk (Nat.le_refl _)
  have later:∀ j (hj:j<a1.fASNs.length),k+1≤j→a1.fASNs[k].fTo+1<a1.fASNs[j].fFrom:=fun j hj h=>by
   have:=List.pairwise_iff_getElem.1 hv.2 k j (by simpa using hk) (by simpa using hj) (by omega)
   have:=hb _ (List.getElem_mem hj)
   simp only [List.getElem_map,ivS] at *
   omega
  have O:=out_next s2 (y:=(a1.fASNs[k].fFrom.toNat,a1.fASNs[k].fTo.toNat)) (by simp only;omega) (by simp only;omega) (Nat.zero_le _) (show a1.fASNs[k].fTo.toNat≤4294967295 by omega) (Nat.zero_le _)
  have tk:(a1.fASNs.map ivS).take (k+1)=(a1.fASNs.map ivS).take k++[(a1.fASNs[k].fFrom.toNat,a1.fASNs[k].fTo.toNat)]:=by rw [take_snoc hkm,hgk]
  unfold xref21_Minus_L0
  refine Tot.iteT (by simpa using hk) (Tot.bindIdx k rfl hk ?_)
  rw [w64_id (n:=a1.fASNs[k].fTo+1) (by omega) (by omega),w64_id (n:=a1.fASNs[k].fFrom-1) (by omega) (by omega)]
  have e9:(a1.fASNs[k].fTo+1).toNat=a1.fASNs[k].fTo.toNat+1:=by omega
  refine Tot.jnR (fun m:List aSpan=>SVr m∧m.map ivS=s.2.map ivS++(if s.1.toNat<a1.fASNs[k].fFrom.toNat then [(s.1.toNat,a1.fASNs[k].fFrom.toNat-1)] else [])∧m.length≤k+1) (fun j hj=>Tot.ite (fun h => ?_) (fun h=>hj _ ⟨s1,?_,by simp only;omega⟩)) (fun m hm=>Tot.step (a1.fASNs[k].fTo+1,m) (by rw [hw]) ⟨hm.1,by simp only;rw [tk,e9,hm.2.1];exact O,by simp only;omega,by simp only;omega,hm.2.2,fun j hj h=>by have:=later j hj h;simp only;omega⟩)
  ·have h:s.1<a1.fASNs[k].fFrom:=of_decide_eq_true h
   have hlen:(s.2++[aSpan.mk s.1 (a1.fASNs[k].fFrom-1)]).length=s.2.length+1:=by simp
   refine Tot.chk (limB (show(s.2++[aSpan.mk s.1 (a1.fASNs[k].fFrom-1)]).length≤4000000000 by omega)) (hj _ ⟨fun z hz => ?_,?_,by simp only;omega⟩)
   ·rcases List.mem_append.1 hz with e | e
    ·exact s1 z e
    ·rw [List.mem_singleton.1 e]
     exact⟨s3,by simp only;omega,by simp only;omega⟩
   ·rw [List.map_append,if_pos (by omega)]
    have:ivS (aSpan.mk s.1 (a1.fASNs[k].fFrom-1))=(s.1.toNat,a1.fASNs[k].fFrom.toNat-1):=by
     unfold ivS
     simp only
     congr 1
     omega
    rw [List.map_cons,List.map_nil,this]
  ·have h:¬ s.1<a1.fASNs[k].fFrom:=of_decide_eq_false h
   rw [if_neg (by omega),List.append_nil]
 ·obtain⟨s1,s2,s3,s4,s5,s6⟩:=hs
  rw [List.take_of_length_le (by simp)] at s2
  unfold xref21_Minus_L0
  exact Tot.iteF (by simp) (Tot.last ⟨s1,s2,s3,s4,s5⟩)
theorem rboth_V {a b:aResources} (ha:VRes a) (hb:VRes b) {j:Bool→Option (aResources×Int)} {Q:aResources×Int→Prop} (h:Tot (j false) Q) :
  Tot ((xref21_Valid a).bind fun r=>if (!r)=true then j true else (xref21_Valid b).bind fun s=>j (!s)) Q:=by
 have:=ha.la
 have:=ha.ls
 have:=hb.la
 have:=hb.ls
 refine Tot.bindT (rvalid21 ha.R (by omega) (by omega)) fun r hr => ?_
 have hr:r=true:=hr.2 ha
 subst hr
 refine Tot.iteF rfl (Tot.bindT (rvalid21 hb.R (by omega) (by omega)) fun s hs => ?_)
 have hs:s=true:=hs.2 hb
 subst hs
 exact h
theorem rint_tot {a b:aResources} (ha:VRes a) (hb:VRes b):Tot (xref21_Intersect a b) (fun x=>∃ A S,SetIs A S (fun n=>cA a n∧cA b n) (fun n=>cS a n∧cS b n)∧x=LimF A S):=by
 have l1:=ha.la
 have l2:=ha.ls
 have l3:=hb.la
 have l4:=hb.ls
 unfold xref21_Intersect
 refine Tot.jnR (fun m:Bool=>m=false) (fun j hj=>rboth_V ha hb (hj _ rfl)) (fun m hm=>Tot.iteF hm ?_)
 refine Tot.bindT (rcut_tot ha.av hb.av (by omega) (by omega)) fun o ho=>Tot.bindT (rcutS_tot ha.sv hb.sv (by omega) (by omega)) fun s hs => ?_
 obtain⟨c1,c2,c3⟩:=cutsL_ok hb.va ha.va
 obtain⟨d1,d2,d3⟩:=cutsL_ok hb.vs ha.vs
 have e1:=congrArg List.length ho.2
 have e2:=congrArg List.length hs.2
 simp only [List.length_map] at e1 e2 c3 d3
 have b3:a.fAddrs.length*b.fAddrs.length≤256*256:=Nat.mul_le_mul l1 l3
 have b4:a.fASNs.length*b.fASNs.length≤256*256:=Nat.mul_le_mul l2 l4
 refine Tot.bindT (ranges_tot ho.1 (by rw [ho.2];exact c1.1) (by omega)) fun A hA=>Tot.bindT (spans_tot hs.1 (by omega)) fun S hS=>Tot.bindOf (lim_eq A S) (Tot.some ⟨A,S,⟨hA.1,hA.2.1,fun n => ?_,hS.1,hS.2.1,fun n => ?_⟩,rfl⟩)
 ·rw [hA.2.2.1,ho.2];exact c2 n
 ·rw [hS.2.2.1,hs.2];exact d2 n
theorem cA_bd {r:aResources} (h:VRes r) {n:Nat} (hn:cA r n):(flo false≤n∧n≤fhi false)∨(flo true≤n∧n≤fhi true):=by
 obtain⟨y,hy,h1,h2⟩:=hn
 obtain⟨x,hx,rfl⟩:=List.mem_map.1 hy
 obtain⟨x1,x2,x3⟩:=h.av x hx
 have g1:=(fam_in x1).1
 have g2:=(fam_in x2).2
 rw [← x3] at g2
 have k1:rk x.fFrom≤n:=h1
 have k2:n≤rk x.fTo:=h2
 cases c:x.fFrom.fV6<;>rw [c] at g1 g2
 ·left;omega
 ·right;omega
theorem cS_bd {r:aResources} (h:VRes r) {n:Nat} (hn:cS r n):n≤4294967295:=by
 obtain⟨y,hy,h1,h2⟩:=hn
 obtain⟨x,hx,rfl⟩:=List.mem_map.1 hy
 obtain⟨x1,x2,x3⟩:=h.sv x hx
 have k2:n≤x.fTo.toNat:=h2
 omega
theorem minus_L1_eq (a0:aResources) (r8:List aRange):xref21_Minus_L1 a0 r8=xref21_Intersect_L0 a0 (aResources.mk r8 []):=rfl
theorem rmin_tot {a b:aResources} (ha:VRes a) (hb:VRes b):Tot (xref21_Minus a b) (fun x=>∃ A S,SetIs A S (fun n=>cA a n∧¬ cA b n) (fun n=>cS a n∧¬ cS b n)∧x=LimF A S):=by
 have l1:=ha.la
 have l2:=ha.ls
 have l3:=hb.la
 have l4:=hb.ls
 unfold xref21_Minus
 refine Tot.jnR (fun m:Bool=>m=false) (fun j hj=>rboth_V ha hb (hj _ rfl)) (fun m hm=>Tot.iteF hm ?_)
 refine Tot.bindT (outside_tot hb.av hb.va (by omega)) fun r hr=>Tot.bindT (outS_tot hb.sv hb.vs (by omega)) fun p hp => ?_
 obtain⟨r1,r2,r3,r4⟩:=hr
 obtain⟨p1,p2,p3,p4,p5⟩:=hp
 refine Tot.jnR (fun m:List aSpan=>SVr m∧VL (m.map ivS)∧(∀ n,inI n (m.map ivS)↔n≤4294967295∧¬ cS b n)∧m.length≤1000) (fun j hj=>Tot.ite (fun h => ?_) (fun h=>hj _ ⟨p1,p2.vl,fun n => ?_,by omega⟩)) (fun m hm2 => ?_)
 ·have h:p.1≤4294967295:=of_decide_eq_true h
  have e1:(p.2++[aSpan.mk p.1 4294967295]).map ivS=p.2.map ivS++[(p.1.toNat,4294967295)]:=by rw [List.map_append];rfl
  have hlen:(p.2++[aSpan.mk p.1 4294967295]).length=p.2.length+1:=by simp
  refine Tot.chk (limB (by omega)) (hj _ ⟨fun z hz => ?_,?_,fun n => ?_,by omega⟩)
  ·rcases List.mem_append.1 hz with e | e
   ·exact p1 z e
   ·rw [List.mem_singleton.1 e]
    exact⟨p3,h,Int.le_refl _⟩
  ·rw [e1]
   refine vl_app p2.vl (vl_one (by simp only;omega)) fun x hx y hy => ?_
   rw [List.mem_singleton.1 hy]
   exact p2.gap x hx
  ·rw [e1,inI_app,inI_one,p2.is]
   have z0:flo false=0:=rfl
   simp only
   constructor
   ·rintro(⟨k1,k2⟩ | k)
    ·exact⟨by omega,k2⟩
    ·refine⟨by omega,fun e => ?_⟩
     have:=p2.past n (by omega) (show n≤4294967295 by omega) e
     omega
   ·rintro⟨k1,k2⟩
    rcases Nat.lt_or_ge n p.1.toNat with g | g
    ·exact .inl ⟨⟨by omega,g⟩,k2⟩
    ·exact .inr ⟨g,k1⟩
 ·have h:¬ p.1≤4294967295:=of_decide_eq_false h
  rw [p2.is]
  have z0:flo false=0:=rfl
  constructor
  ·rintro⟨k1,k2⟩;exact⟨by omega,k2⟩
  ·rintro⟨k1,k2⟩;exact⟨by omega,k2⟩
 ·obtain⟨m1,m2,m3,m4⟩:=hm2
  rw [minus_L1_eq]
  refine Tot.bindT (rcut_tot (a1:=aResources.mk r []) ha.av r1 (by omega) r4) fun o ho=>Tot.bindT (rcutS2_tot ha.sv m1 (by omega) m4) fun s hs => ?_
  obtain⟨c1,c2,c3⟩:=cutsL_ok r2 ha.va
  obtain⟨d1,d2,d3⟩:=cutsL_ok m2 ha.vs
  refine Tot.bindOf (lim_eq o s) (Tot.some ⟨o,s,⟨ho.1,by rw [ho.2];exact c1,fun n => ?_,hs.1,by rw [hs.2];exact d1,fun n => ?_⟩,rfl⟩)
  ·rw [ho.2,c2,r3]
   exact⟨fun e=>⟨e.1,e.2.2⟩,fun e=>⟨e.1,cA_bd ha e.1,e.2⟩⟩
  ·rw [hs.2,d2,m3]
   exact⟨fun e=>⟨e.1,e.2.2⟩,fun e=>⟨e.1,cS_bd ha e.1,e.2⟩⟩
abbrev U64 (x:Int):Prop:=IntKind.u64.min≤x∧x≤IntKind.u64.max
def hA (a:aAddr):Prop:=True∧U64 a.fHi∧U64 a.fLo∧True
def hG (x:aRange):Prop:=hA x.fFrom∧hA x.fTo∧True
def hS (x:aSpan):Prop:=I64 x.fFrom∧I64 x.fTo∧True
def hRes (x:aResources):Prop:=((∀ y∈x.fAddrs,hG y)∧x.fAddrs.length≤maxLen)∧((∀ y∈x.fASNs,hS y)∧x.fASNs.length≤maxLen)∧True
theorem hA_R {a:aAddr} (h:hA a):aR a:=by
 obtain⟨_,h1,h2,_⟩:=h
 have e1:IntKind.u64.min=0:=rfl
 have e2:IntKind.u64.max=18446744073709551615:=rfl
 unfold U64 at h1 h2
 rw [e1,e2] at h1 h2
 unfold aR
 omega
end Go.Proofs.YtgfoabcickjphaaGreatDoor
