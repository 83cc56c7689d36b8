/- The decks, what messages say, raw changes, the law, in plain Lean. -/
import Derived.Test.YtkhjkjojjdkidaaGreatDoorPureZC
namespace Go.Proofs.YtkhjkjojjdkidaaGreatDoor
open Go Go.Vc
theorem B2n (a m:Int) (hm:0<m) (hb:m≤4611686018427387904):G5 a m=some (a % m):=by
 obtain⟨h0,h1⟩:=B0a a hm
 unfold G5
 refine B9q (by simp;omega) ?_
 unfold jn
 rcases B6d a hm with h | ⟨h,hn⟩
 ·rw [h]
  exact B3a (by simp;omega) rfl
 ·rw [h]
  refine B39 (by simp;omega) ?_
  rw [show a % m-m+m=a % m from by omega,G8 (by omega) (by omega)]
def DeckOk (d:C5):Prop:=0≤d.fAt∧d.fAt≤d.fL.length∧d.fL.length≤9223372036854775807
theorem B10 (d:C5) (hd:DeckOk d) (n:Int) (hn:0<n) (hn':n≤4611686018427387904):Tot (F8 d n) (fun x=>0≤x.1∧x.1<n∧DeckOk x.2):=by
 obtain⟨h0,h1,h2⟩:=hd
 unfold F8
 refine Tot.ite (fun h => ?_) (fun h => ?_)
 ·exact Tot.some ⟨Int.le_refl _,hn,h0,h1,h2⟩
 ·obtain⟨k,hk⟩:∃ k:Nat,d.fAt=k:=⟨d.fAt.toNat,by omega⟩
  have hlt:k<d.fL.length:=by simp at h;omega
  obtain⟨m0,m1⟩:=B0a d.fL[k] hn
  rw [G8 (n:=d.fAt+1) (by omega) (by omega),G8 (n:=d.fAt+1-1) (by omega) (by omega)]
  refine Tot.bindIdx k (by omega) hlt (Tot.bindOf (B2n _ n hn hn') (Tot.some ⟨m0,m1,?_⟩))
  exact⟨by simp only;omega,by simp only;omega,h2⟩
theorem C02 (l:List Int) (hl:l.length≤9223372036854775807):DeckOk ⟨l,0⟩:=⟨Int.le_refl _,by simp only;omega,hl⟩
theorem B11 {o m p t:Int} {x:D4} {q:List A8} (hx:aR x) (hq:q.length≤2000) (hs:∀ s∈q,s.fASNs.length≤2000):Sm (B2.mk o q x m p t [] [] []) :=
 ⟨hx,hq,hs,by simp,by simp,by simp,fun x hx=>by cases hx⟩
theorem zA_R:aR zA:=⟨by decide,by decide⟩
theorem C0c:Sm noD:=B11 zA_R (by simp) (fun s hs=>by cases hs)
theorem Sm_z:Sm (B2.mk 0 [] zA 0 0 0 [] [] []):=B11 zA_R (by simp) (fun s hs=>by cases hs)
def zR:C7:=C7.mk zP 0 (B2.mk 0 [] zA 0 0 0 [] [] [])
theorem A4v {l:List A2} (hl:l.length≤100000):N0 l l=some true:=by
 refine Tot.eq ?_
 unfold N0
 refine Tot.iteF (by simp) ?_
 refine Tot.bindRng l.length (fun i (_:Unit)=>(i:Int)) (fun _ _=>True) (fun x=>x = .inr ()) () rfl trivial (fun i _ hi _ => ?_) (fun _ _ => ?_) (fun x hx=>by subst hx;exact Tot.some rfl)
 ·unfold L5
  refine Tot.iteT (decide_eq_true (by omega)) ?_
  refine Tot.bindIdx i rfl hi ?_
  refine Tot.bindIdx i rfl hi ?_
  refine Tot.iteF (by simp) ?_
  exact Tot.step () (C4 hi (by omega)) trivial
 ·unfold L5
  refine Tot.iteF (decide_eq_false (by omega)) ?_
  exact Tot.last rfl
theorem B1x {u:List A7} (hu:u.length≤4000000) (h:∀ x∈u,Sm x.fAttrs∧x.fWithdraw.length≤100000∧x.fAnnounce.length≤100000):A23 u u=some true:=by
 refine Tot.eq ?_
 unfold A23
 refine Tot.iteF (by simp) ?_
 refine Tot.bindRng u.length (fun i (_:Unit)=>(i:Int)) (fun _ _=>True) (fun x=>x = .inr ()) () rfl trivial (fun i _ hi _ => ?_) (fun _ _ => ?_) (fun x hx=>by subst hx;exact Tot.some rfl)
 ·obtain⟨h1,h2,h3⟩:=h _ (List.getElem_mem hi)
  unfold A13
  refine Tot.iteT (decide_eq_true (by omega)) ?_
  refine Tot.jnR (fun m=>m=false) (fun j hj => ?_) (fun m hm => ?_)
  ·refine Tot.bindIdx i rfl hi (Tot.bindIdx i rfl hi ?_)
   refine Tot.bindOf (A4v h2) (Tot.iteF rfl ?_)
   refine Tot.bindIdx i rfl hi (Tot.bindIdx i rfl hi ?_)
   refine Tot.bindOf (A4v h3) (Tot.iteF rfl ?_)
   refine Tot.bindIdx i rfl hi (Tot.bindIdx i rfl hi ?_)
   have:J0 u[i].fAttrs u[i].fAttrs=some true:=by rw [A9s h1 h1,B2j]
   refine Tot.bindOf this ?_
   exact hj _ rfl
  ·subst hm
   refine Tot.iteF rfl ?_
   exact Tot.step () (C4 hi (by omega)) trivial
 ·unfold A13
  refine Tot.iteF (decide_eq_false (by omega)) ?_
  exact Tot.last rfl
theorem B2o {V:List A2→Bool}:∀ (l cur:List A2) (c:List A2),c∈ck V cur l→c.length≤cur.length+l.length
 | [],cur,c,h=>by simp [ck] at h;subst h;simp
 | p :: l,cur,c,h=>by
  simp only [ck] at h
  split at h
  ·have:=B2o l _ c h;simp at this ⊢;omega
  ·rcases List.mem_cons.1 h with rfl | h
   ·simp
   ·have:=B2o l _ c h;simp at this ⊢;omega
theorem A4w {V:List A2→Bool} {l c:List A2} (h:c∈chunks V l):c.length≤l.length:=by
 cases l with
 | nil=>cases h
 | cons p l=>have:=B2o l [p] c h;simp at this ⊢;omega
theorem B1y {l:List A5} (h:Chs l):(packF l).length≤2000000:=by
 have hlen:=h.len
 have hcl:=A1x bW (goneL l)
 have hgl:=A1d l
 have hfl:=B0z l
 have h3:((FO l).flatMap fun a=>(chunks (bA a) (sel a l)).map (uAa a)).length≤1000*(FO l).length:=A70 _ _ _ fun a _=>by
  have:=A1x (bA a) (sel a l)
  have:=A38 a l
  rw [List.length_map];omega
 unfold packF
 rw [List.length_append,List.length_map]
 omega
theorem B48 {l:List A5} (h:Chs l):∀ x∈packF l,Sm x.fAttrs∧x.fWithdraw.length≤100000∧x.fAnnounce.length≤100000:=by
 have hlen:=h.len
 intro x hx
 unfold packF at hx
 rcases List.mem_append.1 hx with hx | hx
 ·obtain⟨c,hc,rfl⟩:=List.mem_map.1 hx
  have:=A4w hc
  have:=A1d l
  exact⟨C0c,(by show c.length≤_;omega),by simp [uW]⟩
 ·obtain⟨a,ha,hx⟩:=List.mem_flatMap.1 hx
  obtain⟨c,hc,rfl⟩:=List.mem_map.1 hx
  have:=A4w hc
  have:=A38 a l
  exact⟨h.foD ha,by simp [uAa],(by show c.length≤_;omega)⟩
def zC (p:A2):A5:=A5.mk 0 p false (C7.mk zP 0 (B2.mk 0 [] zA 0 0 0 [] [] []))
def aP:A2:=A2.mk (D4.mk false 0 167772160) 8
def bP:A2:=A2.mk (D4.mk false 0 184549376) 8
theorem aP_V:pV aP:=⟨⟨⟨by decide,by decide⟩,.inr (by decide)⟩,by decide,by decide,by decide⟩
theorem bP_V:pV bP:=⟨⟨⟨by decide,by decide⟩,.inr (by decide)⟩,by decide,by decide,by decide⟩
theorem B9j {p:A2} (h:pV p):gd (zC p):=⟨h,(fun e=>by cases e),(fun e=>by cases e)⟩
theorem A79:Chs [zC aP,zC bP]:=by
 refine⟨fun c hc => ?_,fun c hc => ?_,fun i hi => ?_,by simp⟩
 ·simp only [List.mem_cons,List.not_mem_nil,or_false] at hc
  rcases hc with rfl | rfl
  ·exact⟨Sm_z,aP_V.addr.1⟩
  ·exact⟨Sm_z,bP_V.addr.1⟩
 ·simp only [List.mem_cons,List.not_mem_nil,or_false] at hc
  rcases hc with rfl | rfl
  ·exact B9j aP_V
  ·exact B9j bP_V
 ·have:i=0:=by simp at hi;omega
  subst this
  exact .inl (.inr ⟨rfl,(by show nA aP.fAddr<nA bP.fAddr;decide)⟩)
theorem B52:packF [zC aP,zC bP]=[uW [aP,bP]]:=by
 have e1:goneL [zC aP,zC bP]=[aP,bP]:=rfl
 have e2:FO [zC aP,zC bP]=[]:=by simp [FO,foS,zC]
 have e3:bW [aP,bP]=true:=by
  refine B4v.2 ⟨by simp,fun p hp => ?_,by decide,by decide⟩
  simp only [List.mem_cons,List.not_mem_nil,or_false] at hp
  rcases hp with rfl | rfl
  ·exact aP_V
  ·exact bP_V
 unfold packF
 rw [e1,e2]
 simp [chunks,ck,e3]
theorem B2p:V8 [uW [aP,bP]] 7=some [{ zC aP with fTo:=7 },{ zC bP with fTo:=7 }]:=by
 have f0:P4 []=some (0,false):=by unfold P4;simp [jn]
 unfold V8
 rw [D9]
 simp only [T6,uW,noD,List.length_cons,List.length_nil,f0]
 simp [idx]
 rw [D9]
 simp [L2,idx,chk,LIM,G8]
 rw [D9]
 simp [L2,idx,chk,LIM,G8]
 rw [D9]
 simp [L2,f0]
 rw [D9]
 simp [T5]
 rw [D9]
 simp [T6,zC,zP,zA]
theorem B12:Z4=some true:=by
 unfold Z4
 have hp:A2x [zC aP,zC bP]=some ([uW [aP,bP]],0):=by rw [B5t A79.sc A79.len,PF,if_pos ⟨A79.all,A79.asc⟩,B52]
 refine W8 hp ?_
 refine W8 B2p ?_
 simp [jn,idx,zC,bP]
-- what messages say
noncomputable def fst (a:B2):Int×Bool:=(P4 a.fPath).getD (0,false)
noncomputable def asnA (a:B2):Int:=(fst a).1
theorem B49 {a:B2} (h:Sm a):∃ b,S0 a.fPath=some b∧S2 a.fPath=some b∧(b=true→∀ s∈a.fPath,s.fASNs≠[]):=by
 obtain⟨b,e,hb⟩:=A8j h.path h.seg
 exact⟨b,by rw [B5m];exact e,e,fun hh=>(hb hh).2⟩
theorem B1z {a:B2} (h:Sm a):P4 a.fPath=some (fst a):=by
 have:Tot (P4 a.fPath) (fun _=>True):=by
  obtain⟨b,e,_,hb⟩:=B49 h
  unfold P4
  refine Tot.jnR (fun m=>m=false→∃ s p,a.fPath=s :: p∧s.fASNs≠[]) (fun j hj => ?_) (fun m hm => ?_)
  ·refine Tot.ite (fun _=>hj _ (fun e=>by cases e)) (fun e0 => ?_)
   refine Tot.bindOf e ?_
   refine Tot.ite (fun _=>hj _ (fun e=>by cases e)) (fun e1 => ?_)
   have hl:0<a.fPath.length:=by
    rw [beq_eq_false_iff_ne] at e0;omega
   refine Tot.bindIdx 0 rfl hl (hj _ fun _ => ?_)
   obtain⟨s,p,hp⟩:=List.exists_cons_of_ne_nil (List.length_pos_iff.1 hl)
   exact⟨s,p,hp,hb (by simpa using e1) s (by rw [hp];exact List.mem_cons_self ..)⟩
  ·refine Tot.ite (fun _=>Tot.some trivial) (fun e1 => ?_)
   obtain⟨s,p,hp,hs⟩:=hm e1
   rw [hp]
   refine Tot.bindIdx 0 rfl (by simp) (Tot.bindIdx 0 rfl (List.length_pos_iff.2 hs) (Tot.some trivial))
 obtain⟨r,e,_⟩:=this
 unfold fst;rw [e];rfl
def wC (to:Int) (p:A2):A5:=A5.mk to p false zR
noncomputable def aC (to:Int) (a:B2) (p:A2):A5:=A5.mk to p true (C7.mk p (asnA a) a)
theorem ulW {to:Int} {u:A7} {s:List A5} (hl:u.fWithdraw.length≤100000) (hs:s.length≤10000000):loop (L2 to u) ((0:Int),s)=some (s++u.fWithdraw.map (wC to)):=by
 refine Tot.eq ?_
 refine Tot.rng (β:=Unit) u.fWithdraw.length (fun i _=>((i:Int),s++(u.fWithdraw.take i).map (wC to))) (fun _ _=>True) _ () (by simp) trivial (fun i _ hi _ => ?_) (fun _ _ => ?_)
 ·unfold L2
  refine Tot.iteT (decide_eq_true (show(i:Int)<(u.fWithdraw.length:Int) by omega)) ?_
  refine Tot.bindIdx i rfl hi ?_
  refine Tot.chk (limB (by simp;omega)) ?_
  refine Tot.step () ?_ trivial
  rw [C4 hi (by omega),F5 hi,List.map_append,← List.append_assoc]
  rfl
 ·unfold L2
  refine Tot.iteF (decide_eq_false (show ¬ (u.fWithdraw.length:Int)<(u.fWithdraw.length:Int) by omega)) ?_
  refine Tot.last ?_
  rw [List.take_of_length_le (Nat.le_refl _)]
theorem ulA {to:Int} {u:A7} {s:List A5} {r:Int×Bool} (hc:u.fAnnounce=[]∨A0p u.fAttrs=some u.fAttrs∧r.1=asnA u.fAttrs) (hl:u.fAnnounce.length≤100000) (hs:s.length≤10000000):loop (T5 to u r) ((0:Int),s)=some (s++u.fAnnounce.map (aC to u.fAttrs)):=by
 refine Tot.eq ?_
 refine Tot.rng (β:=Unit) u.fAnnounce.length (fun i _=>((i:Int),s++(u.fAnnounce.take i).map (aC to u.fAttrs))) (fun _ _=>True) _ () (by simp) trivial (fun i _ hi _ => ?_) (fun _ _ => ?_)
 ·rcases hc with hc | hc
  ·rw [hc] at hi;cases hi
  ·unfold T5
   refine Tot.iteT (decide_eq_true (show(i:Int)<(u.fAnnounce.length:Int) by omega)) ?_
   refine Tot.bindIdx i rfl hi ?_
   refine Tot.bindOf hc.1 ?_
   refine Tot.chk (limB (by simp;omega)) ?_
   refine Tot.step () ?_ trivial
   rw [C4 hi (by omega),F5 hi,List.map_append,← List.append_assoc,hc.2]
   rfl
 ·unfold T5
  refine Tot.iteF (decide_eq_false (show ¬ (u.fAnnounce.length:Int)<(u.fAnnounce.length:Int) by omega)) ?_
  refine Tot.last ?_
  rw [List.take_of_length_le (Nat.le_refl _)]
noncomputable def says (to:Int) (u:A7):List A5:=u.fWithdraw.map (wC to)++u.fAnnounce.map (aC to u.fAttrs)
def uOk (u:A7):Prop:=Sm u.fAttrs∧u.fWithdraw.length≤1000∧u.fAnnounce.length≤1000
theorem B20 {l:List A7} {to:Int} (h:∀ u∈l,uOk u) (hn:(l.flatMap (says to)).length≤2000000) (hl:l.length≤4000000):V8 l to=some (l.flatMap (says to)):=by
 refine Tot.eq ?_
 unfold V8
 have part:∀ i,((l.take i).flatMap (says to)).length≤2000000:=fun i=>by
  have:l.flatMap (says to)=(l.take i).flatMap (says to)++(l.drop i).flatMap (says to):=by rw [← List.flatMap_append,List.take_append_drop]
  rw [this,List.length_append] at hn
  omega
 refine Tot.bindRng (β:=Unit) l.length (fun i _=>((i:Int),(l.take i).flatMap (says to))) (fun _ _=>True) (fun r=>r=l.flatMap (says to)) () (by simp) trivial (fun i _ hi _ => ?_) (fun _ _ => ?_) (fun x hx=>Tot.some hx)
 ·obtain⟨h1,h2,h3⟩:=h _ (List.getElem_mem hi)
  have hp:=part i
  unfold T6
  refine Tot.iteT (decide_eq_true (show(i:Int)<(l.length:Int) by omega)) ?_
  refine Tot.bindIdx i rfl hi ?_
  refine Tot.bindOf (ulW (by omega) (by simp only;omega)) ?_
  refine Tot.bindOf (B1z h1) ?_
  refine Tot.bindOf (ulA (.inr ⟨B3w h1,rfl⟩) (by omega) (by rw [List.length_append,List.length_map];show((l.take i).flatMap (says to)).length+_≤_;omega)) ?_
  refine Tot.step () ?_ trivial
  rw [C4 hi (by omega),F5 hi,List.flatMap_append,List.append_assoc]
  simp [says]
 ·unfold T6
  refine Tot.iteF (decide_eq_false (show ¬ (l.length:Int)<(l.length:Int) by omega)) ?_
  refine Tot.last ?_
  rw [List.take_of_length_le (Nat.le_refl _)]
-- what lists cut into messages hold
section
variable {V:List A2→Bool}
theorem B2q:∀ (l cur:List A2),(ck V cur l).flatten=cur++l
 | [],cur=>by simp [ck]
 | p :: l,cur=>by
  simp only [ck]
  split
  ·rw [B2q l];simp
  ·rw [List.flatten_cons,B2q l];simp
theorem A92 (l:List A2):(chunks V l).flatten=l:=by
 cases l with
 | nil=>rfl
 | cons p l=>simp only [chunks];rw [B2q];rfl
end
theorem B13 {α β γ:Type} (msg:List α→β) (sy:β→List γ) (f:α→γ) (h:∀ c,sy (msg c)=c.map f):∀ L:List (List α),(L.map msg).flatMap sy=L.flatten.map f
 | []=>rfl
 | c :: L=>by rw [List.map_cons,List.flatMap_cons,h,B13 msg sy f h L,List.flatten_cons,List.map_append]
theorem B21 {α β γ:Type} (f:α→List β) (g:β→List γ):∀ A:List α,(A.flatMap f).flatMap g=A.flatMap fun a=>(f a).flatMap g
 | []=>rfl
 | a :: A=>by simp only [List.flatMap_cons,List.flatMap_append,B21 f g A]
noncomputable def UL (to:Int) (l:List A5):List A5:=(goneL l).map (wC to)++(FO l).flatMap fun a=>(sel a l).map (aC to a)
theorem B14 (to:Int) (l:List A5):(packF l).flatMap (says to)=UL to l:=by
 unfold packF UL
 rw [List.flatMap_append,B21]
 congr 1
 ·rw [B13 uW (says to) (wC to) (fun c=>by simp [says,uW]),A92]
 ·congr 1
  funext a
  rw [B13 (uAa a) (says to) (aC to a) (fun c=>by simp [says,uAa]),A92]
-- each change once
structure rs (r:C7):Prop where
 sm:Sm r.fAttrs
 ad:aR r.fPrefix.fAddr
theorem copyRoute {r:C7} (h:rs r):V9 [r]=some [r]:=by
 obtain⟨p,f,a⟩:=r
 unfold V9
 rw [D9]
 simp [Q1,idx,B2k h.sm,chk,LIM,G8]
 rw [D9]
 simp [Q1]
theorem B89:rs zR:=⟨Sm_z,zA_R⟩
theorem B15 {r:C7} (h:Sm r.fAttrs):K4 r r=some true:=by
 have ha:J0 r.fAttrs r.fAttrs=some true:=by rw [A9s h h,B2j]
 unfold K4
 simp [jn,ha]
theorem B1f {r s:C7} (h:rs r) (k:rs s):Tot (K4 r s) (fun _=>True):=by
 unfold K4
 refine Tot.jn (Tot.ite (fun _=>Tot.bindOf (A9s h.sm k.sm) (Tot.some trivial)) (fun _=>Tot.some trivial))
theorem B4a {l:List C7} (hl:l.length≤1000) (p:A2):Tot (A20 l p) (fun r=>(r.2=true→r.1∈l∧r.1.fPrefix=p)∧(r.2=false→r.1=zR)):=by
 unfold A20
 refine Tot.bindRng l.length (fun i (_:Unit)=>(i:Int)) (fun _ _=>True) (fun x=>x = .inr ()∨∃ r∈l,r.fPrefix=p∧x = .inl r) () rfl trivial (fun i _ hi _ => ?_) (fun _ _ => ?_) (fun x hx => ?_)
 ·unfold A0w
  refine Tot.iteT (decide_eq_true (by omega)) ?_
  refine Tot.bindIdx i rfl hi ?_
  refine Tot.ite (fun e => ?_) (fun _=>Tot.step () (C4 hi (by omega)) trivial)
  have e':peq l[i].fPrefix p=true:=e
  exact Tot.stop (.inr ⟨l[i],List.getElem_mem hi,A5u.1 e',rfl⟩)
 ·unfold A0w
  refine Tot.iteF (decide_eq_false (by omega)) ?_
  exact Tot.last (.inl rfl)
 ·rcases hx with rfl | ⟨r,h1,h2,rfl⟩
  ·exact Tot.some ⟨(fun e=>by cases e),fun _=>rfl⟩
  ·exact Tot.some ⟨fun _=>⟨h1,h2⟩,(fun e=>by cases e)⟩
theorem B53 {a b:List C7} (ha:∀ r∈a,rs r) (hb:∀ r∈b,rs r) (hla:a.length≤100) (hlb:b.length≤100):Tot (A1l a b) (fun ps=>ps.length≤a.length+b.length∧∀ p∈ps,aR p.fAddr):=by
 unfold A1l
 refine Tot.chk (limB (by omega)) (Tot.chk (limB (by simp;omega)) ?_)
 have hab:∀ r∈a++b,rs r:=fun r hr=>by
  rcases List.mem_append.1 hr with h | h
  ·exact ha r h
  ·exact hb r h
 have hlen:(a++b).length=a.length+b.length:=List.length_append
 refine Tot.bindRng (β:=List A2) (a++b).length (fun i out=>((i:Int),out)) (fun i out=>out.length≤i∧∀ p∈out,aR p.fAddr) (fun ps=>ps.length≤a.length+b.length∧∀ p∈ps,aR p.fAddr) [] rfl ⟨Nat.le_refl _,(fun p hp=>by cases hp)⟩ (fun i out hi hI => ?_) (fun out hI => ?_) (fun x hx=>Tot.some hx)
 ·obtain⟨h2,h3⟩:=hI
  have hp:=(hab _ (List.getElem_mem hi)).ad
  unfold X5
  refine Tot.iteT (decide_eq_true (show(i:Int)<((a++b).length:Int) by omega)) ?_
  refine Tot.bindIdx i rfl hi (Tot.bindIdx i rfl hi ?_)
  generalize hP:(a++b)[i]=x at hp
  refine Tot.bindLoop (fun s:Int=>∃ k:Nat,s=k∧k≤out.length) (fun s=>((out.length:Int)-s).toNat) (fun s:Int=>∃ k:Nat,s=k∧k≤out.length) ⟨0,rfl,Nat.zero_le _⟩ (fun s hs => ?_) (fun s hs => ?_)
  ·obtain⟨k,rfl,h4⟩:=hs
   unfold A1a
   refine Tot.jnR (fun m=>m=true→k<out.length) (fun j hj => ?_) (fun m hm => ?_)
   ·refine Tot.ite (fun e => ?_) (fun e=>hj _ (fun e=>by cases e))
    have hk:k<out.length:=by have:=of_decide_eq_true e;simp only at this;omega
    refine Tot.bindIdx k rfl hk (Tot.bindIdx k rfl hk ?_)
    exact Tot.bindOf (B3k (h3 _ (List.getElem_mem hk)) hp) (hj _ fun _=>hk)
   ·refine Tot.ite (fun e => ?_) (fun e=>Tot.out ⟨k,rfl,h4⟩)
    have hk:=hm e
    have hw:=C4 hk (n:=out.length) (by omega)
    exact Tot.next ⟨k+1,hw,hk⟩ (by rw [hw];omega)
  ·obtain⟨k,rfl,h4⟩:=hs
   refine Tot.jnR (fun _=>True) (fun j hj => ?_) (fun m _ => ?_)
   ·refine Tot.ite (fun e=>hj _ trivial) (fun e => ?_)
    have hk:k<out.length:=by simp at e;omega
    exact Tot.bindIdx k rfl hk (Tot.bindIdx k rfl hk (hj _ trivial))
   ·refine Tot.jnR (fun m'=>m'.length≤i+1∧∀ p∈m',aR p.fAddr) (fun j hj => ?_) (fun m' hm'=>Tot.step m' (by rw [C4 hi (by omega)]) hm')
    refine Tot.ite (fun e => ?_) (fun e=>hj _ ⟨(show out.length≤i+1 by omega),h3⟩)
    have hkn:((k:Nat):Int).toNat=k:=by omega
    refine Tot.chk (by simp;omega) (Tot.chk (decide_eq_true (by show((k:Nat):Int).toNat+(out.length-((k:Nat):Int).toNat)≤out.length;omega)) (Tot.chk (limB (by simp;omega)) (Tot.chk (by simp;omega) (Tot.chk (limB (by simp;omega)) (Tot.chk (limB (by simp;omega)) ?_)))))
    refine hj _ ?_
    simp only [hkn]
    have ht:(out.drop k).take (out.length-k)=out.drop k:=List.take_of_length_le (by simp)
    rw [ht]
    refine⟨by simp;omega,fun p hp' => ?_⟩
    rcases List.mem_append.1 hp' with h7 | h7
    ·rcases List.mem_append.1 h7 with h7 | h7
     ·exact h3 p (List.mem_of_mem_take h7)
     ·rw [List.mem_singleton.1 h7];exact hp
    ·exact h3 p (List.mem_of_mem_drop h7)
 ·unfold X5
  refine Tot.iteF (decide_eq_false (show ¬ ((a++b).length:Int)<((a++b).length:Int) by omega)) ?_
  exact Tot.last ⟨(by show out.length≤a.length+b.length;have:=hI.1;omega),hI.2⟩
theorem B8a {a b:List C7} (ha:∀ r∈a,rs r) (hb:∀ r∈b,rs r) (hla:a.length≤100) (hlb:b.length≤100) (to:Int):Tot (A3c to a b) (fun l=>l.length≤a.length+b.length∧∀ c∈l,sc c):=by
 unfold A3c
 refine Tot.bindT (B53 ha hb hla hlb) fun ps hps => ?_
 obtain⟨p2,p3⟩:=hps
 refine Tot.bindRng (β:=List A5) ps.length (fun i out=>((i:Int),out)) (fun i out=>out.length≤i∧∀ c∈out,sc c) (fun l=>l.length≤a.length+b.length∧∀ c∈l,sc c) [] rfl ⟨Nat.le_refl _,(fun c hc=>by cases hc)⟩ (fun i out hi hI => ?_) (fun out hI => ?_) (fun x hx=>Tot.some hx)
 ·obtain⟨h1,h2⟩:=hI
  unfold A0x
  refine Tot.iteT (decide_eq_true (show(i:Int)<(ps.length:Int) by omega)) ?_
  refine Tot.jnR (fun m=>m.length≤i+1∧∀ c∈m,sc c) (fun j hj => ?_) (fun m hm=>Tot.step m (by rw [C4 hi (by omega)]) hm)
  refine Tot.bindIdx i rfl hi ?_
  refine Tot.bindT (B4a (by omega) _) fun x hx => ?_
  refine Tot.bindT (B4a (by omega) _) fun y hy => ?_
  have gx:rs x.1:=by
   cases e:x.2 with
   | true=>exact ha _ (hx.1 e).1
   | false=>rw [hx.2 e];exact B89
  have gy:rs y.1:=by
   cases e:y.2 with
   | true=>exact hb _ (hy.1 e).1
   | false=>rw [hy.2 e];exact B89
  refine Tot.jnR (fun _=>True) (fun j1 hj1 => ?_) (fun m _ => ?_)
  ·exact Tot.ite (fun e=>Tot.bindT (B1f gx gy) fun _ _=>hj1 _ trivial) (fun e=>hj1 _ trivial)
  ·refine Tot.ite (fun _=>hj _ ⟨(show out.length≤i+1 by omega),h2⟩) (fun _ => ?_)
   refine Tot.jnR rs (fun j2 hj2 => ?_) (fun r hr=>Tot.chk (limB (by simp;omega)) (hj _ ⟨(by simp;omega),fun c hc => ?_⟩))
   ·refine Tot.ite (fun e => ?_) (fun e=>hj2 _ B89)
    refine Tot.bindOf (copyRoute gy) ?_
    exact Tot.bindIdx 0 rfl (by simp) (hj2 _ gy)
   ·rcases List.mem_append.1 hc with hc | hc
    ·exact h2 c hc
    ·rw [List.mem_singleton.1 hc]
     exact⟨hr.sm,p3 _ (List.getElem_mem hi)⟩
 ·unfold A0x
  refine Tot.iteF (decide_eq_false (show ¬ (ps.length:Int)<(ps.length:Int) by omega)) ?_
  exact Tot.last ⟨(by show out.length≤_;have:=hI.1;omega),hI.2⟩
-- the deck
theorem B8b {k:Nat} (hk:k<8):Tot (Q5 (k:Int)) (fun p=>aR p.fAddr):=by
 have h:k=0∨k=1∨k=2∨k=3∨k=4∨k=5∨k=6∨k=7:=by omega
 rcases h with rfl | rfl | rfl | rfl | rfl | rfl | rfl | rfl
 all_goals exact⟨_,rfl,by decide,by decide⟩
theorem B9e {n:Nat} (hn:101≤n∧n≤103) (v:Bool):Tot (S1 (n:Int) v) aR:=by
 have h:n=101∨n=102∨n=103:=by omega
 cases v
 all_goals rcases h with rfl | rfl | rfl
 all_goals exact⟨_,rfl,by decide,by decide⟩
theorem B4b (d:C5) (hd:DeckOk d) (to:Int):Tot (G9 d to) (fun r=>(r.1.length≤16∧∀ c∈r.1,sc c)∧DeckOk r.2):=by
 unfold G9
 refine Tot.bindRng (β:=List C7×List C7×C5) 8 (fun i b=>((i:Int),b.1,b.2.1,b.2.2)) (fun i b=>((∀ r∈b.1,rs r)∧b.1.length≤i)∧((∀ r∈b.2.1,rs r)∧b.2.1.length≤i)∧DeckOk b.2.2) (fun p=>DeckOk p.1∧((∀ r∈p.2.1,rs r)∧p.2.1.length≤8)∧((∀ r∈p.2.2,rs r)∧p.2.2.length≤8)) ([],[],d) rfl ⟨⟨(fun r h=>by cases h),Nat.le_refl _⟩,⟨(fun r h=>by cases h),Nat.le_refl _⟩,hd⟩ (fun i b hi hI => ?_) (fun b hI => ?_) (fun p hp => ?_)
 ·obtain⟨la,lb,d⟩:=b
  obtain⟨⟨a1,a2⟩,⟨b1,b2⟩,hd⟩:=hI
  simp only at a1 a2 b1 b2 hd
  unfold G0
  refine Tot.iteT (decide_eq_true (show(i:Int)<8 by omega)) ?_
  refine Tot.bindT (B8b hi) fun p hp => ?_
  refine Tot.bindT (B10 d hd 3 (by omega) (by omega)) fun x1 h1 => ?_
  refine Tot.bindOf A8i ?_
  obtain⟨n,hn,hn'⟩:∃ n:Nat,w64 (101+x1.1)=(n:Int)∧101≤n∧n≤103:=by
   refine⟨(101+x1.1).toNat,?_,by omega,by omega⟩
   rw [G8 (by omega) (by omega)];omega
  rw [hn]
  refine Tot.bindT (B9e hn' p.fAddr.fV6) fun x hx => ?_
  refine Tot.bindT (B10 x1.2 h1.2.2 2 (by omega) (by omega)) fun x2 h2 => ?_
  refine Tot.bindT (B10 x2.2 h2.2.2 4 (by omega) (by omega)) fun x3 h3 => ?_
  have rkm:∀ m:Int,rs (C7.mk p n (B2.mk 0 [A8.mk false [(n:Int)]] x m (-1) (-1) [] [] [])):=fun m=>⟨B11 hx (by simp) (by simp),hp⟩
  have r1:=rkm x2.1
  have r5:=rkm 5
  have app:∀ {l:List C7} {r:C7},(∀ r∈l,rs r)∧l.length≤i→rs r→(∀ q∈l++[r],rs q)∧(l++[r]).length≤i+1:=fun {l r} hl hr=>⟨fun q hq=>by
   rcases List.mem_append.1 hq with hq | hq
   ·exact hl.1 q hq
   ·rw [List.mem_singleton.1 hq];exact hr,by simp;omega⟩
  have keep:∀ {l:List C7},(∀ r∈l,rs r)∧l.length≤i→(∀ q∈l,rs q)∧l.length≤i+1:=fun hl=>⟨hl.1,by omega⟩
  refine Tot.jnR (fun m=>((∀ r∈m.1,rs r)∧m.1.length≤i+1)∧((∀ r∈m.2,rs r)∧m.2.length≤i+1)) (fun j hj => ?_) (fun m hm=>Tot.step (m.1,m.2,x3.2) (by rw [C4 hi (by omega)]) ⟨hm.1,hm.2,h3.2.2⟩)
  refine Tot.ite (fun _=>Tot.chk (limB (by simp;omega)) (hj _ ⟨keep ⟨a1,a2⟩,app ⟨b1,b2⟩ r1⟩)) (fun _ => ?_)
  refine Tot.ite (fun _=>Tot.chk (limB (by simp;omega)) (hj _ ⟨app ⟨a1,a2⟩ r1,keep ⟨b1,b2⟩⟩)) (fun _ => ?_)
  refine Tot.ite (fun _=>Tot.chk (limB (by simp;omega)) (Tot.chk (limB (by simp;omega)) (hj _ ⟨app ⟨a1,a2⟩ r5,app ⟨b1,b2⟩ r1⟩))) (fun _ => ?_)
  exact hj _ ⟨keep ⟨a1,a2⟩,keep ⟨b1,b2⟩⟩
 ·unfold G0
  refine Tot.iteF (decide_eq_false (show ¬ ((8:Nat):Int)<8 by decide)) ?_
  exact Tot.last ⟨hI.2.2,hI.1,hI.2.1⟩
 ·refine Tot.bindT (B8a hp.2.2.1 hp.2.1.1 (by omega) (by omega) to) fun r hr=>Tot.some ⟨⟨(by have:=hp.2.1.2;have:=hp.2.2.2;have:=hr.1;show r.length≤16;omega),hr.2⟩,hp.1⟩
theorem B54 {a:B2} (h:Sm a):A2r a.fPath=some (fst a):=by
 obtain⟨b,e,e',hb⟩:=B49 h
 have hf:=B1z h
 rw [← hf]
 unfold P4 A2r
 simp only [jn,e,e',Option.bind_some]
 cases hp:a.fPath with
 | nil=>cases b<;>simp
 | cons s p =>
  have:(((s :: p).length:Int)==0)=false:=by rw [beq_eq_false_iff_ne];simp;omega
  rw [this]
  cases b<;>simp
theorem rulW {to:Int} {u:A7} {s:List A5} (hl:u.fWithdraw.length≤100000) (hs:s.length≤10000000):loop (S7 to u) ((0:Int),s)=some (s++u.fWithdraw.map (wC to)):=by
 refine Tot.eq ?_
 refine Tot.rng (β:=Unit) u.fWithdraw.length (fun i _=>((i:Int),s++(u.fWithdraw.take i).map (wC to))) (fun _ _=>True) _ () (by simp) trivial (fun i _ hi _ => ?_) (fun _ _ => ?_)
 ·unfold S7
  refine Tot.iteT (decide_eq_true (show(i:Int)<(u.fWithdraw.length:Int) by omega)) ?_
  refine Tot.bindIdx i rfl hi ?_
  refine Tot.chk (limB (by simp;omega)) ?_
  refine Tot.step () ?_ trivial
  rw [C4 hi (by omega),F5 hi,List.map_append,← List.append_assoc]
  rfl
 ·unfold S7
  refine Tot.iteF (decide_eq_false (show ¬ (u.fWithdraw.length:Int)<(u.fWithdraw.length:Int) by omega)) ?_
  refine Tot.last ?_
  rw [List.take_of_length_le (Nat.le_refl _)]
theorem rulA {to:Int} {u:A7} {s:List A5} (hc:Sm u.fAttrs) (hl:u.fAnnounce.length≤100000) (hs:s.length≤10000000):loop (S8 to u) ((0:Int),s)=some (s++u.fAnnounce.map (aC to u.fAttrs)):=by
 refine Tot.eq ?_
 refine Tot.rng (β:=Unit) u.fAnnounce.length (fun i _=>((i:Int),s++(u.fAnnounce.take i).map (aC to u.fAttrs))) (fun _ _=>True) _ () (by simp) trivial (fun i _ hi _ => ?_) (fun _ _ => ?_)
 ·unfold S8
  refine Tot.iteT (decide_eq_true (show(i:Int)<(u.fAnnounce.length:Int) by omega)) ?_
  refine Tot.bindIdx i rfl hi ?_
  refine Tot.bindOf (B54 hc) ?_
  refine Tot.bindOf (B2k hc) ?_
  refine Tot.chk (limB (by simp;omega)) ?_
  refine Tot.step () ?_ trivial
  rw [C4 hi (by omega),F5 hi,List.map_append,← List.append_assoc]
  rfl
 ·unfold S8
  refine Tot.iteF (decide_eq_false (show ¬ (u.fAnnounce.length:Int)<(u.fAnnounce.length:Int) by omega)) ?_
  refine Tot.last ?_
  rw [List.take_of_length_le (Nat.le_refl _)]
theorem B16 {l:List A7} {to:Int} (h:∀ u∈l,uOk u) (hn:(l.flatMap (says to)).length≤2000000) (hl:l.length≤4000000):A0b l to=some (l.flatMap (says to)):=by
 refine Tot.eq ?_
 unfold A0b
 have part:∀ i,((l.take i).flatMap (says to)).length≤2000000:=fun i=>by
  have:l.flatMap (says to)=(l.take i).flatMap (says to)++(l.drop i).flatMap (says to):=by rw [← List.flatMap_append,List.take_append_drop]
  rw [this,List.length_append] at hn
  omega
 refine Tot.bindRng (β:=Unit) l.length (fun i _=>((i:Int),(l.take i).flatMap (says to))) (fun _ _=>True) (fun r=>r=l.flatMap (says to)) () (by simp) trivial (fun i _ hi _ => ?_) (fun _ _ => ?_) (fun x hx=>Tot.some hx)
 ·obtain⟨h1,h2,h3⟩:=h _ (List.getElem_mem hi)
  have hp:=part i
  unfold Y4
  refine Tot.iteT (decide_eq_true (show(i:Int)<(l.length:Int) by omega)) ?_
  refine Tot.bindIdx i rfl hi ?_
  refine Tot.bindOf (rulW (by omega) (by simp only;omega)) ?_
  refine Tot.bindOf (rulA h1 (by omega) (by rw [List.length_append,List.length_map];show((l.take i).flatMap (says to)).length+_≤_;omega)) ?_
  refine Tot.step () ?_ trivial
  rw [C4 hi (by omega),F5 hi,List.flatMap_append,List.append_assoc]
  simp [says]
 ·unfold Y4
  refine Tot.iteF (decide_eq_false (show ¬ (l.length:Int)<(l.length:Int) by omega)) ?_
  refine Tot.last ?_
  rw [List.take_of_length_le (Nat.le_refl _)]
theorem A5j {l:List A5} (hl:l.length≤4000000) (h:∀ c∈l,Sm c.fRoute.fAttrs):P2 l l=some true:=by
 refine Tot.eq ?_
 unfold P2
 refine Tot.iteF (by simp) ?_
 refine Tot.bindRng l.length (fun i (_:Unit)=>(i:Int)) (fun _ _=>True) (fun x=>x = .inr ()) () rfl trivial (fun i _ hi _ => ?_) (fun _ _ => ?_) (fun x hx=>by subst hx;exact Tot.some rfl)
 ·unfold O5
  refine Tot.iteT (decide_eq_true (by omega)) ?_
  refine Tot.jnR (fun m=>m=false) (fun j hj => ?_) (fun m hm=>by subst hm;exact Tot.iteF rfl (Tot.step () (C4 hi (by omega)) trivial))
  refine Tot.bindIdx i rfl hi (Tot.bindIdx i rfl hi (Tot.iteF (by simp) ?_))
  refine Tot.bindIdx i rfl hi (Tot.bindIdx i rfl hi (Tot.iteF (by simp) ?_))
  refine Tot.bindIdx i rfl hi (Tot.bindIdx i rfl hi (Tot.iteF (by simp) ?_))
  refine Tot.bindIdx i rfl hi (Tot.bindIdx i rfl hi ?_)
  exact Tot.bindOf (B15 (h _ (List.getElem_mem hi))) (hj _ rfl)
 ·unfold O5
  refine Tot.iteF (decide_eq_false (by omega)) ?_
  exact Tot.last rfl
theorem C03 {l:List A5} (hlen:l.length≤1000) (to:Int):(UL to l).length≤2000000:=by
 have h1:=A1d l
 have h2:=B0z l
 have h3:((FO l).flatMap fun a=>(sel a l).map (aC to a)).length≤1000*(FO l).length:=A70 _ _ _ fun a _=>by
  have:=A38 a l
  rw [List.length_map];omega
 unfold UL
 rw [List.length_append,List.length_map]
 omega
theorem C0d {l:List A5} (hS:∀ c∈l,sc c) (to:Int):∀ c∈UL to l,Sm c.fRoute.fAttrs:=fun c hc=>by
 unfold UL at hc
 rcases List.mem_append.1 hc with hc | hc
 ·obtain⟨p,_,rfl⟩:=List.mem_map.1 hc
  exact Sm_z
 ·obtain⟨a,ha,hc⟩:=List.mem_flatMap.1 hc
  obtain⟨p,_,rfl⟩:=List.mem_map.1 hc
  exact scD hS ha
theorem B22 {l:List A5} (h:Chs l):∀ u∈packF l,uOk u:=fun x hx=>by
 have hlen:=h.len
 have h1:=B48 h x hx
 unfold packF at hx
 rcases List.mem_append.1 hx with hx | hx
 ·obtain⟨c,hc,rfl⟩:=List.mem_map.1 hx
  have:=A4w hc
  have:=A1d l
  exact⟨h1.1,(by show c.length≤_;omega),by simp [uW]⟩
 ·obtain⟨a,ha,hx⟩:=List.mem_flatMap.1 hx
  obtain⟨c,hc,rfl⟩:=List.mem_map.1 hx
  have:=A4w hc
  have:=A38 a l
  exact⟨h1.1,by simp [uAa],(by show c.length≤_;omega)⟩
theorem B9f {l:List A5} (hS:∀ c∈l,sc c) (hlen:l.length≤1000):A23 (PF l).1 (PF l).1=some true:=by
 unfold PF
 split
 ·rename_i ho
  have h:=ho.chs hS hlen
  exact B1x (Nat.le_trans (B1y h) (by decide)) (B48 h)
 ·exact B1x (by simp) (fun x hx=>by cases hx)
theorem B6u {l:List A5} (hS:∀ c∈l,sc c) (hlen:l.length≤1000) (to:Int):∃ U,V8 (PF l).1 to=some U∧A0b (PF l).1 to=some U∧P2 U U=some true:=by
 unfold PF
 split
 ·rename_i ho
  have h:=ho.chs hS hlen
  have h1:=B1y h
  have h2:=C03 hlen to
  rw [← B14] at h2
  refine⟨_,B20 (B22 h) h2 (by show(packF l).length≤_;omega),B16 (B22 h) h2 (by show(packF l).length≤_;omega),?_⟩
  rw [B14] at h2 ⊢
  exact A5j (by omega) (C0d hS to)
 ·refine⟨_,B20 (l:=[]) (fun u hu=>by cases hu) (by simp) (by simp),B16 (l:=[]) (fun u hu=>by cases hu) (by simp) (by simp),?_⟩
  exact A5j (by simp) (fun c hc=>by cases hc)
-- raw changes
def rl {α:Type} (q:α→Prop) (x:List α):Prop:=(∀ y∈x,q y)∧x.length≤maxLen∧x.length≤1048576
abbrev U64 (x:Int):Prop:=IntKind.u64.min≤x∧x≤IntKind.u64.max
def rAddr (x:D4):Prop:=True∧U64 x.fHi∧U64 x.fLo∧True
def rPfx (x:A2):Prop:=rAddr x.fAddr∧I64 x.fLen∧True
def rSeg (x:A8):Prop:=True∧rl I64 x.fASNs∧True
def rCom (x:B0):Prop:=I64 x.fA∧I64 x.fB∧True
def rLar (x:D5):Prop:=I64 x.fA∧I64 x.fB∧I64 x.fC∧True
def rUnk (x:A1):Prop:=I64 x.fFlags∧I64 x.fType∧rl (fun y:Int=>IntKind.u8.min≤y∧y≤IntKind.u8.max) x.fData∧True
def rAtt (x:B2):Prop:=I64 x.fOrigin∧rl rSeg x.fPath∧rAddr x.fNext∧I64 x.fMED∧I64 x.fPref∧I64 x.fOTC∧rl rCom x.fCommunities∧rl rLar x.fLarge∧rl rUnk x.fOther∧True
def rRou (x:C7):Prop:=rPfx x.fPrefix∧I64 x.fFrom∧rAtt x.fAttrs∧True
def rChg (x:A5):Prop:=I64 x.fTo∧rPfx x.fPrefix∧True∧rRou x.fRoute∧True
theorem B5u {x:D4} (h:rAddr x):aR x:=by
 obtain⟨_,h1,h2,_⟩:=h
 have e1:IntKind.u64.min=0:=rfl
 have e2:IntKind.u64.max=18446744073709551615:=rfl
 unfold U64 at h1 h2
 rw [e1,e2] at h1 h2
 exact⟨⟨h1.1,by omega⟩,h2.1,by omega⟩
theorem B5v {s:A8}:∀ {p:List A8},s∈p→s.fASNs.length≤nAs p
 | t :: p,h=>by
  simp only [nAs]
  rcases List.mem_cons.1 h with h | h
  ·rw [h];omega
  ·have:=B5v h;omega
def dts:List A1→Nat
 | []=>0
 | x :: l=>x.fData.length+dts l
theorem B5w:∀ p q:List A1,dts (p++q)=dts p+dts q
 | [],q=>by simp [dts]
 | s :: p,q=>by simp only [List.cons_append,dts,B5w p q];omega
theorem B5x {x:A1}:∀ {p:List A1},x∈p→x.fData.length≤dts p
 | t :: p,h=>by
  simp only [dts]
  rcases List.mem_cons.1 h with h | h
  ·rw [h];omega
  ·have:=B5x h;omega
theorem B8c {n:Nat}:∀ {p:List A8},(∀ s∈p,s.fASNs.length≤n)→nAs p≤n*p.length
 | [],_=>by simp [nAs]
 | s :: p,h=>by
  have h1:=h s (List.mem_cons_self ..)
  have h2:=B8c fun t ht=>h t (List.mem_cons_of_mem _ ht)
  simp only [nAs,List.length_cons,Nat.mul_succ];omega
theorem B8d {n:Nat}:∀ {p:List A1},(∀ s∈p,s.fData.length≤n)→dts p≤n*p.length
 | [],_=>by simp [dts]
 | s :: p,h=>by
  have h1:=h s (List.mem_cons_self ..)
  have h2:=B8d fun t ht=>h t (List.mem_cons_of_mem _ ht)
  simp only [dts,List.length_cons,Nat.mul_succ];omega
theorem B6v {a:B2} (h:rAtt a):Tot (K3 a) (fun b=>b=true→Sm a):=by
 obtain⟨_,hp,hn,_,_,_,hc,hl,ho,_⟩:=h
 have hseg:∀ s∈a.fPath,s.fASNs.length≤1048576:=fun s hs=>(hp.1 s hs).2.1.2.2
 have hdat:∀ x∈a.fOther,x.fData.length≤1048576∧∀ y∈x.fData,byte y:=fun x hx=>⟨(ho.1 x hx).2.2.1.2.2,fun y hy=>by
  have:=(ho.1 x hx).2.2.1.1 y hy
  have e1:IntKind.u8.min=0:=rfl
  have e2:IntKind.u8.max=255:=rfl
  rw [e1,e2] at this
  unfold byte;omega⟩
 have p1:=hp.2.2
 have c1:=hc.2.2
 have l1:=hl.2.2
 have o1:=ho.2.2
 have part:∀ k,nAs (a.fPath.take k)≤1048576*1048576:=fun k=>by
  have:=B8c (p:=a.fPath.take k) fun s hs=>hseg s (List.mem_of_mem_take hs)
  refine Nat.le_trans this (Nat.mul_le_mul_left _ ?_)
  rw [List.length_take];omega
 have part2:∀ k,dts (a.fOther.take k)≤1048576*1048576:=fun k=>by
  have:=B8d (p:=a.fOther.take k) fun s hs=>(hdat s (List.mem_of_mem_take hs)).1
  refine Nat.le_trans this (Nat.mul_le_mul_left _ ?_)
  rw [List.length_take];omega
 unfold K3
 rw [G8 (n:=(a.fCommunities.length:Int)+(a.fLarge.length:Int)) (by omega) (by omega),G8 (by omega) (by omega)]
 refine Tot.bindRng a.fPath.length (fun k (_:Unit)=>(((a.fCommunities.length+a.fLarge.length+a.fOther.length+k+nAs (a.fPath.take k):Nat):Int),(k:Int))) (fun _ _=>True) (fun x=>x=((a.fCommunities.length+a.fLarge.length+a.fOther.length+a.fPath.length+nAs a.fPath:Nat):Int)) () (by simp [nAs]) trivial (fun k _ hk _ => ?_) (fun _ _ => ?_) (fun x hx => ?_)
 ·unfold I2
  have q1:=part k
  have q2:=part (k+1)
  have hsn:nAs (a.fPath.take (k+1))=nAs (a.fPath.take k)+a.fPath[k].fASNs.length:=by rw [F5 hk,A5v];simp [nAs]
  refine Tot.iteT (by simpa using hk) (Tot.bindIdx k rfl hk ?_)
  refine Tot.step () (Prod.ext ?_ (C4 hk (by omega))) trivial
  simp only
  rw [G8 (n:=(1:Int)+_) (by omega) (by omega),G8 (by omega) (by omega),hsn]
  omega
 ·unfold I2
  refine Tot.iteF (by simp) (Tot.last ?_)
  rw [List.take_length]
 subst hx
 have q0:=part a.fPath.length
 rw [List.take_length] at q0
 refine Tot.bindRng a.fOther.length (fun k (_:Unit)=>(((a.fCommunities.length+a.fLarge.length+a.fOther.length+a.fPath.length+nAs a.fPath+dts (a.fOther.take k):Nat):Int),(k:Int))) (fun _ _=>True) (fun x=>x=((a.fCommunities.length+a.fLarge.length+a.fOther.length+a.fPath.length+nAs a.fPath+dts a.fOther:Nat):Int)) () (by simp [dts]) trivial (fun k _ hk _ => ?_) (fun _ _ => ?_) (fun x hx => ?_)
 ·unfold I3
  have q1:=part2 k
  have q2:=part2 (k+1)
  have hsn:dts (a.fOther.take (k+1))=dts (a.fOther.take k)+a.fOther[k].fData.length:=by rw [F5 hk,B5w];simp [dts]
  refine Tot.iteT (by simpa using hk) (Tot.bindIdx k rfl hk ?_)
  refine Tot.step () (Prod.ext ?_ (C4 hk (by omega))) trivial
  simp only
  rw [G8 (by omega) (by omega),hsn]
  omega
 ·unfold I3
  refine Tot.iteF (by simp) (Tot.last ?_)
  rw [List.take_length]
 subst hx
 refine Tot.some fun e => ?_
 have e':=of_decide_eq_true e
 exact⟨B5u hn,by omega,fun s hs=>by have:=B5v hs;omega,by omega,by omega,by omega,fun x hx=>⟨by have:=B5x hx;omega,(hdat x hx).2⟩⟩
theorem B2r {x:List A5} (hS:∀ c∈x,sc c) (hlen:x.length≤1000) {a0:List A5} {r:List A5×C5} {m:List A5} {k:Nat} (hk:k<3) (hx:([r.1,m,a0]:List (List A5))[k]? = some x) :
  Tot (H5 a0 r m (k:Int)) (fun y=>y = .inr (w64 ((k:Int)+1))):=by
 unfold H5
 refine Tot.iteT (decide_eq_true (by show(k:Int)<3;omega)) ?_
 refine Tot.bindOf (x:=x) (B2e hx) ?_
 refine Tot.bindOf (B5t hS hlen) ?_
 refine Tot.bindOf (B88 hS hlen) ?_
 refine Tot.jnR (fun b=>b=false) (fun j hj => ?_) (fun b hb=>by subst hb;exact Tot.iteF rfl (Tot.some rfl))
 refine Tot.iteF (by simp) ?_
 refine Tot.bindOf (B9f hS hlen) ?_
 refine Tot.iteF rfl ?_
 obtain⟨U,h1,h2,h3⟩:=B6u hS hlen 9
 refine Tot.bindOf h1 (Tot.bindOf h2 (Tot.bindOf h3 (hj _ rfl)))
theorem B2s (a0:List A5) (h0:(∀ y∈a0,rChg y)∧a0.length≤maxLen∧a0.length≤1048576) (a1:List Int) (h1:(∀ y∈a1,I64 y)∧a1.length≤maxLen∧a1.length≤1048576) (a2:Int) {p2:Prop} (_:p2) (a3:Int) {p3:Prop} (_:p3):X1 a0 a1 a2 a3=some true:=by
 refine Tot.eq ?_
 unfold X1
 refine Tot.ite (fun _=>Tot.bindOf B12 (Tot.some rfl)) (fun e => ?_)
 have hlen:a0.length≤60:=by have:=of_decide_eq_false e;omega
 refine Tot.bindRng a0.length (fun i (_:Unit)=>(i:Int)) (fun i _=>∀ c∈a0.take i,Sm c.fRoute.fAttrs) (fun x=>x = .inl true∨(x = .inr ()∧∀ c∈a0,Sm c.fRoute.fAttrs)) () rfl (by simp) (fun i _ hi hI => ?_) (fun _ hI => ?_) (fun x hx => ?_)
 ·unfold L7
  refine Tot.iteT (decide_eq_true (show(i:Int)<(a0.length:Int) by omega)) (Tot.bindIdx i rfl hi ?_)
  refine Tot.bindT (B6v (h0.1 _ (List.getElem_mem hi)).2.2.2.1.2.2.1) fun b hb => ?_
  refine Tot.ite (fun _=>Tot.bindOf B12 (Tot.stop (.inl rfl))) (fun e=>Tot.step () (C4 hi (by omega)) fun c hc => ?_)
  rw [F5 hi] at hc
  rcases List.mem_append.1 hc with hc | hc
  ·exact hI c hc
  ·rw [List.mem_singleton.1 hc];exact hb (by simpa using e)
 ·unfold L7
  refine Tot.iteF (decide_eq_false (show ¬ (a0.length:Int)<(a0.length:Int) by omega)) ?_
  rw [List.take_length] at hI
  exact Tot.last (.inr ⟨rfl,hI⟩)
 rcases hx with rfl | ⟨rfl,hsm⟩
 ·exact Tot.some rfl
 have hraw:∀ c∈a0,sc c:=fun c hc=>⟨hsm c hc,B5u (h0.1 c hc).2.1.1⟩
 refine Tot.bindOf (x:=⟨a1,0⟩) rfl ?_
 refine Tot.bindT (B4b ⟨a1,0⟩ (C02 a1 (by have:=h1.2.2;omega)) 101) fun r hr => ?_
 obtain⟨⟨hrl,hrs⟩,_⟩:=hr
 refine Tot.chk (limB (by omega)) ?_
 refine Tot.jnR (fun m=>m.length≤17∧∀ c∈m,sc c) (fun j hj => ?_) (fun m hm => ?_)
 ·have same:=hj r.1 ⟨by omega,hrs⟩
  refine Tot.ite (fun e => ?_) (fun _=>same)
  have hpos:0<r.1.length:=by have:=of_decide_eq_true e;omega
  obtain⟨m0,m1⟩:=B0a a3 (m:=(r.1.length:Int)) (by omega)
  obtain⟨q,hq⟩:∃ q:Nat,a3 % (r.1.length:Int)=q:=⟨(a3 % (r.1.length:Int)).toNat,by omega⟩
  have hql:q<r.1.length:=by omega
  refine Tot.bindOf (B2n a3 _ (by omega) (by omega)) ?_
  rw [hq]
  refine Tot.bindIdx q rfl hql ?_
  refine Tot.bindOf (B2n a2 5 (by omega) (by omega)) ?_
  have hg:=hrs _ (List.getElem_mem hql)
  have put:∀ c:A5,sc c→Tot (j (r.1.set ((q:Nat):Int).toNat c)) (fun y=>y=true):=fun c hc=>hj _ ⟨by rw [List.length_set];omega,fun d hd=>by
   rcases List.mem_or_eq_of_mem_set hd with hd | hd
   ·exact hrs d hd
   ·rw [hd];exact hc⟩
  refine Tot.ite (fun _ => ?_) (fun _=>Tot.ite (fun _ => ?_) (fun _=>Tot.ite (fun _ => ?_) (fun _=>Tot.ite (fun _ => ?_) (fun _=>same))))
  ·exact Tot.bindOf (B2n a3 40 (by omega) (by omega)) (Tot.bindIdx q rfl hql (put _ ⟨hg.sm,hg.ad⟩))
  ·exact Tot.bindIdx q rfl hql (Tot.bindIdx q rfl hql (put _ ⟨hg.sm,hg.ad⟩))
  ·exact Tot.bindIdx q rfl hql (put _ ⟨⟨hg.sm.next,hg.sm.path,hg.sm.seg,hg.sm.com,hg.sm.lar,hg.sm.oth,hg.sm.dat⟩,hg.ad⟩)
  ·refine Tot.bindIdx 0 rfl hpos (Tot.bindIdx 0 rfl hpos (Tot.chk (limB (by simp;omega)) (hj _ ⟨by simp;omega,fun d hd => ?_⟩)))
   rcases List.mem_append.1 hd with hd | hd
   ·exact hrs d hd
   ·rw [List.mem_singleton.1 hd];exact hrs _ (List.getElem_mem hpos)
 ·refine Tot.bindRng 3 (fun i (_:Unit)=>(i:Int)) (fun _ _=>True) (fun x=>x = .inr ()) () rfl trivial (fun i _ hi _ => ?_) (fun _ _ => ?_) (fun x hx => ?_)
  ·have go:∀ x:List A5,(∀ c∈x,sc c)→x.length≤1000→([r.1,m,a0]:List (List A5))[i]? = some x→Tot (H5 a0 r m (i:Int)) (Stp (fun i (_:Unit)=>(i:Int)) (fun _ _=>True) (fun x:Unit⊕Unit=>x = .inr ()) i):=fun x h2 h3 h4=>(B2r h2 h3 hi h4).mono fun y hy=>by
    subst hy
    exact⟨(),C4 hi (by omega),trivial⟩
   have:i=0∨i=1∨i=2:=by omega
   rcases this with rfl | rfl | rfl
   ·exact go r.1 hrs (by omega) rfl
   ·exact go m hm.2 (by omega) rfl
   ·exact go a0 hraw (by omega) rfl
  ·unfold H5
   exact Tot.iteF rfl (Tot.last rfl)
  ·subst hx
   exact Tot.bindOf B12 (Tot.some rfl)
end Go.Proofs.YtkhjkjojjdkidaaGreatDoor
