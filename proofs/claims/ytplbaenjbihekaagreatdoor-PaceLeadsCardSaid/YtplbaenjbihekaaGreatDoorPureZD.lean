/- Queues and the law, in plain Lean. -/
import Derived.Test.YtplbaenjbihekaaGreatDoorPureZC
import Derived.Test.YtplbaenjbihekaaGreatDoorVcMP
namespace Go.Proofs.YtplbaenjbihekaaGreatDoor
open Go Go.Vc
instance decP:DecidableEq A0:=fun p q=>if h:peq p q=true then isTrue (A17.1 h) else isFalse fun e=>h (A17.2 e)
theorem keyP:KeyLaw keq33:=fun a b=>by rw [B3c];exact A17
theorem B54 {c:A1} (h:rt c):rk c.fRoute∨c.fRoute=zR:=by
 cases hh:c.fHas with
 | false=>exact .inr (h.z hh)
 | true =>
  obtain⟨n,x,m,h1,h2,h3⟩:=h.h hh
  left
  rw [h2]
  exact⟨h.val,n,x,m,h1,rfl,h3⟩
theorem B62:T0 zR.fAttrs=some zR.fAttrs:=by
 unfold T0
 rw [D8]
 simp [S4,zR,A0m,A0n,chk,LIM]
 rw [D8]
 simp [X0]
theorem B55 {c:A1} (h:rt c):A0e c.fRoute=some c.fRoute:=by
 unfold A0e
 rcases B54 h with ⟨_,n,x,m,hd,e,_⟩ | e
 ·rw [e];exact K7 B38 rfl
 ·rw [e];exact K7 B62 rfl
theorem A6u {l:List A1} (h:∀ c∈l,rt c) (hn:l.length≤100000):V3 l=some l:=by
 refine Tot.eq ?_
 unfold V3
 refine Tot.bindRng (β:=Unit) l.length (fun i _=>((i:Int),l.take i)) (fun _ _=>True) (fun r=>r=l) () (by simp) trivial (fun i _ hi _ => ?_) (fun _ _ => ?_) (fun x hx=>Tot.some hx)
 ·unfold S6
  refine Tot.iteT (decide_eq_true (show(i:Int)<(l.length:Int) by omega)) ?_
  refine Tot.bindIdx i rfl hi ?_
  refine Tot.bindOf (B55 (h _ (List.getElem_mem hi))) ?_
  refine Tot.chk (limB (by simp;omega)) ?_
  refine Tot.step () ?_ trivial
  rw [F3 hi (by omega),G8 hi]
 ·unfold S6
  refine Tot.iteF (decide_eq_false (show ¬ (l.length:Int)<(l.length:Int) by omega)) ?_
  exact Tot.last (List.take_of_length_le (Nat.le_refl _))
theorem A5v {l:List A1} (h:∀ c∈l,rt c) (hn:l.length≤100000):Q2 l=some l:=A6u h hn
def pf (l:List A1):List A0:=l.map (·.fPrefix)
theorem B56 {l:List A1} {i:Nat} (h:i<(pf l).length):(pf l)[i]=(l[i]'(by simpa [pf] using h)).fPrefix:=by simp [pf]
structure QOk (k:Nat) (q:F9):Prop where
 b0:1≤q.fBucket.fBurst∧q.fBucket.fBurst≤1000
 r0:0≤q.fBucket.fRate∧q.fBucket.fRate≤q.fBucket.fBurst
 l0:0≤q.fBucket.fLevel∧q.fBucket.fLevel≤q.fBucket.fBurst
 all:∀ c∈q.fPending,rt c
 nod:(pf q.fPending).Nodup
 len:q.fPending.length≤200*k
 k20:k≤20
theorem B3d {c:A1} (h:rt c):Y8 c=some true:=by
 have hc:Chs [c]:=⟨fun x hx=>by rw [List.mem_singleton.1 hx];exact h.gd,fun i hi=>absurd hi (by simp),by simp⟩
 unfold Y8
 exact K7 (B3a hc) rfl
theorem B1q {β:Type} {v:A0→β} {k:A0}:∀ {l:List A0},k∉l→mix keq33 k (l.map fun p=>(p,v p))=none
 | [],_=>rfl
 | p :: l,h=>by
  rw [List.mem_cons,not_or] at h
  rw [List.map_cons,mix,if_neg,B1q h.2]
  ·rfl
  ·rw [B3c,A17];exact h.1
theorem B1r {l:List A0} (hn:l.Nodup) {i:Nat} (hi:i<l.length):l[i]∉l.take i:=fun hm=>by
 rw [List.mem_take_iff_getElem] at hm
 obtain⟨j,hj,e⟩:=hm
 have:=(List.getElem_inj hn).1 e
 omega
theorem mvalid {k:Nat} {q:F9} (h:QOk k q):A1r q.fBucket=some true:=by
 have h1:=h.b0;have h2:=h.r0;have h3:=h.l0
 unfold A1r
 congr 1
 simp only [Bool.and_eq_true,decide_eq_true_eq]
 omega
theorem qvalid {k:Nat} {q:F9} (h:QOk k q):A1g q=some true:=by
 have hlen:=h.len;have hk:=h.k20
 refine Tot.eq ?_
 unfold A1g
 refine Tot.bindOf (mvalid h) ?_
 refine Tot.iteF (by simp;omega) ?_
 have hpl:(pf q.fPending).length=q.fPending.length:=by simp [pf]
 refine Tot.bindRng (β:=Unit) q.fPending.length (fun i _=>((i:Int),((pf q.fPending).take i).map fun p=>(p,true))) (fun _ _=>True) (fun r=>r = .inr ()) () (by simp) trivial (fun i _ hi _ => ?_) (fun _ _ => ?_) (fun x hx=>by subst hx;exact Tot.some rfl)
 ·unfold A02
  refine Tot.iteT (decide_eq_true (show(i:Int)<(q.fPending.length:Int) by omega)) ?_
  refine Tot.bindIdx i rfl hi ?_
  have hp:q.fPending[i].fPrefix=(pf q.fPending)[i]'(by omega):=by simp [pf]
  have hm:=B1q (v:=fun _=>true) (B1r h.nod (i:=i) (by omega))
  refine Tot.jnR (fun m=>m=false) (fun j hj => ?_) (fun m hm' => ?_)
  ·refine Tot.iteF ?_ ?_
   ·rw [hp];unfold mget;rw [hm];rfl
   ·exact Tot.bindOf (B3d (h.all _ (List.getElem_mem hi))) (hj _ rfl)
  ·subst hm'
   refine Tot.iteF rfl (Tot.step () ?_ trivial)
   rw [F3 hi (by omega),hp,B0y hm,G8 (by omega),List.map_append]
   rfl
 ·unfold A02
  refine Tot.iteF (decide_eq_false (show ¬ (q.fPending.length:Int)<(q.fPending.length:Int) by omega)) ?_
  exact Tot.last rfl
def putC (out:List A1) (c:A1):List A1:=if c.fPrefix∈pf out then out.map (fun d=>if d.fPrefix=c.fPrefix then c else d) else out++[c]
def pushF (out l:List A1):List A1:=l.foldl putC out
theorem B3e (out:List A1) (c:A1):pf (putC out c)=if c.fPrefix∈pf out then pf out else pf out++[c.fPrefix]:=by
 unfold putC
 by_cases h:c.fPrefix∈pf out
 ·rw [if_pos h,if_pos h]
  unfold pf
  rw [List.map_map]
  refine List.map_congr_left fun d _ => ?_
  simp only [Function.comp]
  split
  ·rename_i e;exact e.symm
  ·rfl
 ·rw [if_neg h,if_neg h];simp [pf]
theorem B57 {out:List A1} (c:A1) (h:(pf out).Nodup):(pf (putC out c)).Nodup:=by
 rw [B3e]
 split
 ·exact h
 ·rename_i hn
  rw [List.nodup_append]
  exact⟨h,by simp,fun a ha b hb e=>by cases List.mem_singleton.1 hb;subst e;exact hn ha⟩
theorem B1s {out:List A1} {c d:A1} (h:d∈putC out c):d∈out∨d=c:=by
 unfold putC at h
 split at h
 ·obtain⟨e,he,rfl⟩:=List.mem_map.1 h
  split
  ·exact .inr rfl
  ·exact .inl he
 ·rcases List.mem_append.1 h with h | h
  ·exact .inl h
  ·exact .inr (List.mem_singleton.1 h)
theorem B58 (out:List A1) (c:A1):out.length≤(putC out c).length∧(putC out c).length≤out.length+1:=by
 unfold putC
 split<;>simp
theorem B63 {out:List A1} (h:(pf out).Nodup) {c:A1} {j:Nat} (hj:j<out.length) (e:out[j].fPrefix=c.fPrefix):out.set j c=putC out c:=by
 have hm:c.fPrefix∈pf out:=by rw [← e];exact List.mem_map.2 ⟨_,List.getElem_mem hj,rfl⟩
 unfold putC
 rw [if_pos hm]
 refine List.ext_getElem (by simp) fun i h1 h2 => ?_
 rw [List.getElem_set,List.getElem_map]
 have hi:i<out.length:=by simpa using h1
 by_cases hij:j=i
 ·subst hij;rw [if_pos rfl,if_pos e]
 ·rw [if_neg hij,if_neg]
  intro e'
  have h3:(pf out)[j]'(by simpa [pf] using hj)=(pf out)[i]'(by simpa [pf] using hi):=by simp [pf,e,e']
  exact hij ((List.getElem_inj h).1 h3)
theorem B59 {out:List A1} {c:A1} (h:c.fPrefix∉pf out):putC out c=out++[c]:=by unfold putC;rw [if_neg h]
theorem A3v (out l:List A1) (c:A1):pushF out (l++[c])=putC (pushF out l) c:=by unfold pushF;rw [List.foldl_append];rfl
theorem A8y {out:List A1} (h1:(pf out).Nodup) (h2:∀ c∈out,rt c):∀ l:List A1,(∀ c∈l,rt c)→(pf (pushF out l)).Nodup∧(∀ c∈pushF out l,rt c)∧(pushF out l).length≤out.length+l.length:=by
 refine A1u (fun _=>⟨h1,h2,by simp [pushF]⟩) (fun l c ih hl => ?_)
 obtain⟨a1,a2,a3⟩:=ih fun x hx=>hl x (List.mem_append_left _ hx)
 rw [A3v]
 refine⟨B57 c a1,fun d hd => ?_,?_⟩
 ·rcases B1s hd with hd | rfl
  ·exact a2 d hd
  ·exact hl _ (List.mem_append_right _ (List.mem_singleton.2 rfl))
 ·have:=(B58 (pushF out l) c).2
  simp;omega
def PM (m:List (A0×Int)) (l:List A1):Prop:=(∀ (j:Nat) (h:j<l.length),mget keq33 m l[j].fPrefix=some (j:Int))∧∀ p,p∉pf l→mget keq33 m p=none
theorem PM.snoc {m:List (A0×Int)} {l:List A1} (h:PM m l) {c:A1} (hc:c.fPrefix∉pf l):PM (mput keq33 m c.fPrefix (l.length:Int)) (l++[c]):=by
 refine⟨fun j hj => ?_,fun p hp => ?_⟩
 ·rw [A53 keyP]
  by_cases hjl:j<l.length
  ·rw [List.getElem_append_left hjl,if_neg,h.1 j hjl]
   intro e
   exact hc (by rw [← e];exact List.mem_map.2 ⟨_,List.getElem_mem hjl,rfl⟩)
  ·have:j=l.length:=by simp at hj;omega
   subst this
   simp
 ·rw [A53 keyP,if_neg,h.2 p]
  ·intro hm;exact hp (by simp only [pf,List.map_append];exact List.mem_append_left _ hm)
  ·rintro rfl;exact hp (by simp [pf])
theorem PM.keep {m:List (A0×Int)} {l l':List A1} (h:PM m l) (e:pf l'=pf l):PM m l':=by
 have hl:l'.length=l.length:=by have:=congrArg List.length e;simpa [pf] using this
 refine⟨fun j hj => ?_,fun p hp=>h.2 p (by rw [← e];exact hp)⟩
 have h1:(pf l')[j]'(by simpa [pf] using hj)=(pf l)[j]'(by simp [pf];omega):=by simp only [e]
 have h2:l'[j].fPrefix=(l[j]'(by omega)).fPrefix:=by simpa [pf] using h1
 rw [h2]
 exact h.1 j (by omega)
theorem goods {l:List A1} (h:∀ c∈l,rt c) (hn:l.length≤100000):L5 l=some false:=by
 refine Tot.eq ?_
 unfold L5 U0
 refine Tot.bindT (P':=fun r=>r = -1) ?_ fun r hr=>Tot.some (by rw [hr];rfl)
 refine Tot.bindRng (β:=Unit) l.length (fun i _=>(i:Int)) (fun _ _=>True) (fun r=>r = .inr ()) () rfl trivial (fun i _ hi _ => ?_) (fun _ _ => ?_) (fun x hx=>by subst hx;exact Tot.some rfl)
 ·unfold L4
  refine Tot.iteT (decide_eq_true (by omega)) ?_
  refine Tot.bindIdx i rfl hi ?_
  have:A1t l[i]=some false:=by unfold A1t;exact K7 (B3d (h _ (List.getElem_mem hi))) rfl
  refine Tot.bindOf this (Tot.iteF rfl ?_)
  exact Tot.step () (F3 hi (by omega)) trivial
 ·unfold L4
  refine Tot.iteF (decide_eq_false (by omega)) ?_
  exact Tot.last rfl
theorem B3f {k:Nat} {q:F9} (h:QOk k q) {a:List A1} (ha:∀ c∈a,rt c) (hn:a.length≤90):A27 q a=some (F9.mk (pushF q.fPending a) q.fBucket,0):=by
 have hlen:=h.len;have hk:=h.k20
 refine Tot.eq ?_
 unfold A27
 refine Tot.jnR (fun m=>m=false) (fun j hj => ?_) (fun m hm => ?_)
 ·refine Tot.bindOf (qvalid h) (Tot.iteF rfl ?_)
  exact Tot.bindOf (goods ha (by omega)) (hj _ rfl)
 ·subst hm
  refine Tot.iteF rfl ?_
  refine Tot.bindOf (A5v h.all (by omega)) ?_
  refine Tot.bindT (P':=fun m=>PM m q.fPending) ?_ fun m hm => ?_
  ·have hpl:(pf q.fPending).length=q.fPending.length:=by simp [pf]
   refine Tot.rng (β:=List (A0×Int)) q.fPending.length (fun i m=>((i:Int),m)) (fun i m=>PM m (q.fPending.take i)) _ [] rfl ⟨fun j hj=>absurd hj (by simp),fun p _=>rfl⟩ (fun i m hi hI => ?_) (fun m hI => ?_)
   ·unfold A10
    refine Tot.iteT (decide_eq_true (show(i:Int)<(q.fPending.length:Int) by omega)) ?_
    refine Tot.bindIdx i rfl hi (Tot.bindIdx i rfl hi ?_)
    refine Tot.step _ (by rw [F3 hi (by omega)]) ?_
    have hnot:q.fPending[i].fPrefix∉pf (q.fPending.take i):=by
     have:=B1r h.nod (i:=i) (by omega)
     rw [B56] at this
     unfold pf at this ⊢
     rwa [List.map_take]
    have:=hI.snoc hnot
    rw [List.length_take,Nat.min_eq_left (by omega)] at this
    rw [G8 hi];exact this
   ·unfold A10
    refine Tot.iteF (decide_eq_false (show ¬ (q.fPending.length:Int)<(q.fPending.length:Int) by omega)) ?_
    rw [List.take_of_length_le (Nat.le_refl _)] at hI
    exact Tot.last hI
  ·refine Tot.bindOf (A6u ha (by omega)) ?_
   have hp:=A8y h.nod h.all
   have part:∀ i,∀ c∈a.take i,rt c:=fun i c hc=>ha c (List.mem_of_mem_take hc)
   refine Tot.bindRng (β:=List (A0×Int)) a.length (fun i m=>((i:Int),m,pushF q.fPending (a.take i))) (fun i m=>PM m (pushF q.fPending (a.take i))) (fun r=>r=pushF q.fPending a) m (by simp [pushF]) (by simpa [pushF] using hm) (fun i m hi hI => ?_) (fun m hI => ?_) (fun x hx => ?_)
   ·obtain⟨p1,p2,p3⟩:=hp (a.take i) (part i)
    rw [List.length_take] at p3
    unfold A11
    refine Tot.iteT (decide_eq_true (show(i:Int)<(a.length:Int) by omega)) ?_
    have hsn:pushF q.fPending (a.take (i+1))=putC (pushF q.fPending (a.take i)) a[i]:=by rw [G8 hi,A3v]
    refine Tot.jnR (fun m'=>PM m'.1 m'.2∧m'.2=pushF q.fPending (a.take (i+1))) (fun j hj => ?_) (fun m' hm'=>Tot.step m'.1 (by rw [F3 hi (by omega),hm'.2]) (by rw [← hm'.2];exact hm'.1))
    refine Tot.bindIdx i rfl hi ?_
    by_cases hc:a[i].fPrefix∈pf (pushF q.fPending (a.take i))
    ·obtain⟨t,ht,e⟩:=List.getElem_of_mem hc
     have ht':t<(pushF q.fPending (a.take i)).length:=by simpa [pf] using ht
     rw [B56] at e
     have hg:=hI.1 t ht'
     rw [e] at hg
     refine Tot.iteT (by rw [hg];rfl) ?_
     refine Tot.bindIdx t (by rw [hg];rfl) ht' (Tot.bindIdx t (by rw [hg];rfl) ht' ?_)
     refine hj _ ?_
     have h5:=B63 p1 ht' e
     have h6:((mget keq33 m a[i].fPrefix).getD 0).toNat=t:=by rw [hg];simp
     simp only [h6]
     rw [h5,hsn]
     refine⟨hI.keep ?_,rfl⟩
     rw [B3e,if_pos hc]
    ·have hg:=hI.2 _ hc
     refine Tot.iteF (by rw [hg];rfl) ?_
     refine Tot.chk (limB (by simp;omega)) ?_
     refine hj _ ⟨hI.snoc hc,?_⟩
     rw [hsn,B59 hc]
   ·unfold A11
    refine Tot.iteF (decide_eq_false (show ¬ (a.length:Int)<(a.length:Int) by omega)) ?_
    refine Tot.last ?_
    rw [List.take_of_length_le (Nat.le_refl _)]
   ·subst hx
    have:=(hp a ha).2.2
    refine Tot.iteF (decide_eq_false (by omega)) (Tot.some rfl)
theorem QOk.push {k:Nat} {q:F9} (h:QOk k q) (hk:k<20) {a:List A1} (ha:∀ c∈a,rt c) (hn:a.length≤200):QOk (k+1) (F9.mk (pushF q.fPending a) q.fBucket):=by
 obtain⟨h1,h2,h3⟩:=A8y h.nod h.all a ha
 have:=h.len
 exact⟨h.b0,h.r0,h.l0,h2,h1,(by show(pushF q.fPending a).length≤_;omega),hk⟩
-- the document
def nm (u:C9):List A0:=u.fWithdraw++u.fAnnounce
def SP (us:List C9):List A0:=us.flatMap nm
def DM (d:List (A0×Bool)) (S:List A0):Prop:=∀ p,(mget keq33 d p).getD false=decide (p∈S)
theorem DM.put {d:List (A0×Bool)} {S:List A0} (h:DM d S) (p:A0):DM (mput keq33 d p true) (S++[p]):=fun q=>by
 rw [A53 keyP]
 by_cases e:q=p
 ·subst e;simp
 ·rw [if_neg e,h q];simp [e]
theorem DM.nil:DM [] []:=fun p=>rfl
def keepF (S:List A0) (l:List A1):List A1:=l.filter fun c => !decide (c.fPrefix∈S)
theorem A5w (S:List A0) (l:List A1) (c:A1):keepF S (l++[c])=if c.fPrefix∈S then keepF S l else keepF S l++[c]:=by
 unfold keepF
 rw [List.filter_append]
 by_cases h:c.fPrefix∈S<;>simp [h]
theorem B46 (S:List A0) (l:List A1):(keepF S l).length≤l.length:=List.length_filter_le _ _
theorem firstdel {d:List (A0×Bool)} {S:List A0} (h:DM d S) {l:List A1} (hn:l.length≤100000):Tot (P4 l d) (fun r=>(r = -1∧∀ c∈l,c.fPrefix∉S)∨∃ (i:Nat) (hi:i<l.length),r=i∧l[i].fPrefix∈S∧∀ (j:Nat) (hj:j<l.length),j<i→l[j].fPrefix∉S):=by
 unfold P4
 refine Tot.bindRng (β:=Unit) l.length (fun i _=>(i:Int)) (fun i _=>∀ (j:Nat) (hj:j<l.length),j<i→l[j].fPrefix∉S) (fun x=>(x = .inr ()∧∀ c∈l,c.fPrefix∉S)∨∃ (i:Nat) (hi:i<l.length),x = .inl (i:Int)∧l[i].fPrefix∈S∧∀ (j:Nat) (hj:j<l.length),j<i→l[j].fPrefix∉S) () rfl (fun j _ h=>absurd h (by omega)) (fun i _ hi hI => ?_) (fun _ hI => ?_) (fun x hx => ?_)
 ·unfold L6
  refine Tot.iteT (decide_eq_true (by omega)) ?_
  refine Tot.bindIdx i rfl hi (Tot.bindIdx i rfl hi ?_)
  have:T2 l[i] d=some (decide (l[i].fPrefix∈S)):=by unfold T2;rw [h]
  refine Tot.bindOf this ?_
  refine Tot.ite (fun e=>Tot.stop (.inr ⟨i,hi,rfl,of_decide_eq_true e,hI⟩)) (fun e=>Tot.step () (F3 hi (by omega)) fun j hj hji => ?_)
  by_cases hji':j=i
  ·subst hji';exact of_decide_eq_false e
  ·exact hI j hj (by omega)
 ·unfold L6
  refine Tot.iteF (decide_eq_false (by omega)) ?_
  refine Tot.last (.inl ⟨rfl,fun c hc => ?_⟩)
  obtain⟨j,hj,rfl⟩:=List.getElem_of_mem hc
  exact hI j hj hj
 ·rcases hx with ⟨rfl,h⟩ | ⟨i,hi,rfl,h⟩
  ·exact Tot.some (.inl ⟨rfl,h⟩)
  ·exact Tot.some (.inr ⟨i,hi,rfl,h⟩)
theorem B1t {S:List A0} {l:List A1} (h:∀ c∈l,c.fPrefix∉S):keepF S l=l:=by
 unfold keepF
 rw [List.filter_eq_self]
 intro c hc
 simp [h c hc]
theorem B47 {d:List (A0×Bool)} {S:List A0} (h:DM d S) {l:List A1} (hn:l.length≤100000):R1 l d=some (keepF S l):=by
 refine Tot.eq ?_
 unfold R1
 refine Tot.bindT (firstdel h hn) fun r hr => ?_
 rcases hr with ⟨rfl,hr⟩ | ⟨i,hi,rfl,hr1,hr2⟩
 ·refine Tot.iteT rfl (Tot.some ?_)
  rw [B1t hr]
 ·refine Tot.iteF (by simp) ?_
  have hw:=F3 hi (n:=l.length) (by omega)
  have hti:keepF S (l.take i)=l.take i:=B1t fun c hc=>by
   rw [List.mem_take_iff_getElem] at hc
   obtain⟨j,hj,rfl⟩:=hc
   exact hr2 j (by omega) (by omega)
  refine Tot.bindLoop (fun s:Int×Int×List A1=>∃ w j:Nat,s.1=w∧s.2.1=j∧w<j∧j≤l.length∧s.2.2.length=l.length∧s.2.2.take w=keepF S (l.take j)∧s.2.2.drop j=l.drop j) (fun s=>((l.length:Int)-s.2.1).toNat) (fun x:Int×List A1=>∃ w:Nat,x.1=w∧w≤l.length∧x.2.length=l.length∧x.2.take w=keepF S l) ⟨i,i+1,rfl,hw,by omega,hi,rfl,?_,rfl⟩ (fun s hs => ?_) (fun x hx => ?_)
  ·rw [G8 hi,A5w,if_pos hr1,hti]
  ·obtain⟨s1,s2,xs⟩:=s
   obtain⟨w,j,e1,e2,h3,h4,h5,h6,h7⟩:=hs
   simp only at e1 e2 h5 h6 h7
   subst e1;subst e2
   unfold R0
   refine Tot.ite (fun e => ?_) (fun e => ?_)
   ·have hj:j<xs.length:=by have:=of_decide_eq_true e;simp only at this;omega
    have hjl:j<l.length:=by omega
    have hx:xs[j]=l[j]:=by
     have h8:=List.drop_eq_getElem_cons hj
     have h9:=List.drop_eq_getElem_cons hjl
     rw [h7,h9] at h8
     injection h8 with h8 _
     exact h8.symm
    have hd:xs.drop (j+1)=l.drop (j+1):=by
     have h8:=congrArg (List.drop 1) h7
     rwa [List.drop_drop,List.drop_drop] at h8
    have hw2:=F3 hjl (n:=l.length) (by omega)
    refine Tot.bindIdx j rfl hj (Tot.bindIdx j rfl hj ?_)
    have:T2 xs[j] d=some (decide (xs[j].fPrefix∈S)):=by unfold T2;rw [h]
    refine Tot.bindOf this ?_
    refine Tot.jnR (fun m=>∃ w':Nat,m.1=w'∧w'<j+1∧m.2.length=l.length∧m.2.take w'=keepF S (l.take (j+1))∧m.2.drop (j+1)=l.drop (j+1)) (fun jj hjj => ?_) (fun m hm => ?_)
    ·refine Tot.ite (fun e' => ?_) (fun e' => ?_)
     ·have hnot:l[j].fPrefix∉S:=by rw [← hx];simpa using e'
      refine Tot.bindIdx w rfl (show w<xs.length by omega) (Tot.bindIdx w rfl (show w<xs.length by omega) ?_)
      refine hjj _ ⟨w+1,F3 (n:=l.length) (by omega) (by omega),by omega,by simpa using h5,?_,?_⟩
      ·have hwn:((w:Nat):Int).toNat=w:=by omega
       simp only [hwn]
       rw [G8 (by rw [List.length_set];omega),List.getElem_set_self,List.take_set_of_le (Nat.le_refl _),h6,G8 hjl,A5w,if_neg hnot,hx]
      ·have hwn:((w:Nat):Int).toNat=w:=by omega
       simp only [hwn]
       rw [List.drop_set_of_lt (by omega)];exact hd
     ·have hin:l[j].fPrefix∈S:=by rw [← hx];simpa using e'
      refine hjj _ ⟨w,rfl,by omega,h5,?_,hd⟩
      simp only
      rw [h6,G8 hjl,A5w,if_pos hin]
    ·obtain⟨w',g1,g2,g3,g4,g5⟩:=hm
     refine Tot.next ⟨w',j+1,g1,hw2,g2,hjl,g3,g4,g5⟩ ?_
     simp only
     rw [hw2];omega
   ·have hj:¬ j<xs.length:=by have:=of_decide_eq_false e;simp only at this;omega
    refine Tot.out ⟨w,rfl,by omega,h5,?_⟩
    have hjl:j=l.length:=by omega
    subst hjl
    rw [List.take_of_length_le (Nat.le_refl _)] at h6
    exact h6
  ·obtain⟨x1,xs⟩:=x
   obtain⟨w,e1,h2,h3,h4⟩:=hx
   simp only at e1 h3 h4
   subst e1
   have hwn:((w:Nat):Int).toNat=w:=by omega
   refine Tot.chk (by simp;omega) (Tot.chk (decide_eq_true (by show((w:Nat):Int).toNat+(xs.length-((w:Nat):Int).toNat)≤xs.length;omega)) (Tot.chk (by simp;omega) (Tot.some ?_)))
   simp only [hwn]
   rw [List.drop_zero,List.append_assoc,List.take_append_of_le_length (by simp;omega),List.take_take,Nat.min_self]
   exact h4
-- sending
def bk' (b:G4) (i:Nat):G4:=G4.mk (b.fLevel-i) b.fRate b.fBurst
theorem B64 {us:List C9} {i:Nat} (h:i<us.length):SP (us.take (i+1))=SP (us.take i)++nm us[i]:=by
 unfold SP;rw [G8 h,List.flatMap_append];simp
theorem B5a {b:G4} {i:Nat} (h0:0≤b.fLevel∧b.fLevel≤1000) (hi:(i:Int)≤b.fLevel):A2g (bk' b i)=some (if (i:Int)<b.fLevel then (bk' b (i+1),true) else (bk' b i,false)):=by
 unfold A2g
 have e1:(bk' b i).fLevel=b.fLevel-i:=rfl
 by_cases h:(i:Int)<b.fLevel
 ·have e2:decide ((bk' b i).fLevel≤0)=false:=decide_eq_false (by rw [e1];omega)
  rw [if_pos h,e2,e1,I3 (by omega) (by omega)]
  unfold bk'
  simp only
  rw [show b.fLevel-(i:Int)-1=b.fLevel-((i+1:Nat):Int) by omega]
  rfl
 ·have e2:decide ((bk' b i).fLevel≤0)=true:=decide_eq_true (by rw [e1];omega)
  rw [if_neg h,e2]
  rfl
def cut31 (b:G4) (us:List C9):Nat:=min b.fLevel.toNat us.length
theorem sends {us:List C9} {e:Int} {b:G4} (h0:0≤b.fLevel∧b.fLevel≤1000) (hl:us.length≤4000000) (hu:∀ u∈us,u.fWithdraw.length≤100000∧u.fAnnounce.length≤100000) :
  Tot (loop (A14 (us,e)) ((0:Int),([]:List (A0×Bool)),([]:List C9),b)) (fun x=>DM x.1 (SP (us.take (cut31 b us)))∧x.2=(us.take (cut31 b us),bk' b (cut31 b us))):=by
 have hb0:b=bk' b 0:=by cases b;simp [bk']
 refine Tot.loop (fun s:Int×List (A0×Bool)×List C9×G4=>∃ i:Nat,s.1=i∧i≤us.length∧(i:Int)≤b.fLevel∧DM s.2.1 (SP (us.take i))∧s.2.2.1=us.take i∧s.2.2.2=bk' b i) (fun s=>((us.length:Int)-s.1).toNat) _ (fun s hs => ?_) ⟨0,rfl,Nat.zero_le _,h0.1,by simpa [SP] using DM.nil,by simp,hb0⟩
 obtain⟨s1,d,sent,b'⟩:=s
 obtain⟨i,e1,h2,h3,h4,h5,h6⟩:=hs
 simp only at e1 h4 h5 h6
 subst e1;subst h5;subst h6
 have fin:(cut31 b us=i)→Tot (some (Sum.inl (d,us.take i,bk' b i):(List (A0×Bool)×List C9×G4)⊕(Int×List (A0×Bool)×List C9×G4))) (Rnd (fun s:Int×List (A0×Bool)×List C9×G4=>∃ i:Nat,s.1=i∧i≤us.length∧(i:Int)≤b.fLevel∧DM s.2.1 (SP (us.take i))∧s.2.2.1=us.take i∧s.2.2.2=bk' b i) (fun s=>((us.length:Int)-s.1).toNat) (fun x=>DM x.1 (SP (us.take (cut31 b us)))∧x.2=(us.take (cut31 b us),bk' b (cut31 b us))) ((i:Int),d,us.take i,bk' b i)):=fun hc=>Tot.out (by rw [hc];exact⟨h4,rfl⟩)
 unfold A14
 refine Tot.ite (fun e => ?_) (fun e => ?_)
 ·have hi:i<us.length:=by have:=of_decide_eq_true e;simp only at this;omega
  refine Tot.bindIdx i rfl hi ?_
  refine Tot.bindOf (B5a h0 h3) ?_
  by_cases hlt:(i:Int)<b.fLevel
  ·rw [if_pos hlt]
   obtain⟨u1,u2⟩:=hu _ (List.getElem_mem hi)
   refine Tot.iteF rfl ?_
   refine Tot.chk (limB (by simp;omega)) ?_
   have hcl:A12 us[i].fWithdraw=some us[i].fWithdraw:=by
    unfold A12
    simp [chk,show us[i].fWithdraw.length≤LIM from(by show _≤4294967296;omega)]
   refine Tot.bindOf hcl ?_
   refine Tot.chk (limB (by simp;omega)) ?_
   refine Tot.bindT (P':=fun d'=>DM d' (SP (us.take i)++nm us[i])) ?_ fun d' hd' => ?_
   ·refine Tot.rng (β:=List (A0×Bool)) (nm us[i]).length (fun k d=>((k:Int),d)) (fun k d=>DM d (SP (us.take i)++(nm us[i]).take k)) _ d rfl (by simpa using h4) (fun k d hk hI => ?_) (fun d hI => ?_)
    ·unfold A13
     have hk':k<(us[i].fWithdraw++us[i].fAnnounce).length:=hk
     refine Tot.iteT (decide_eq_true (show(k:Int)<((us[i].fWithdraw++us[i].fAnnounce).length:Int) by omega)) ?_
     refine Tot.bindIdx k rfl hk' (Tot.bindIdx k rfl hk' ?_)
     have hnl:(nm us[i]).length≤200000:=by simp [nm];omega
     refine Tot.step _ (by rw [F3 hk (by omega)]) ?_
     rw [G8 hk,← List.append_assoc]
     exact hI.put _
    ·unfold A13
     refine Tot.iteF (decide_eq_false (show ¬ ((nm us[i]).length:Int)<((us[i].fWithdraw++us[i].fAnnounce).length:Int) by simp [nm])) ?_
     rw [List.take_of_length_le (Nat.le_refl _)] at hI
     exact Tot.last hI
   ·have hw:=F3 hi (n:=us.length) (by omega)
    refine Tot.next ⟨i+1,hw,hi,by omega,by rw [B64 hi];exact hd',by rw [G8 hi],rfl⟩ ?_
    simp only
    rw [hw];omega
  ·rw [if_neg hlt]
   refine Tot.iteT rfl (fin ?_)
   unfold cut31;omega
 ·have hi:¬ i<us.length:=by have:=of_decide_eq_false e;simp only at this;omega
  refine fin ?_
  unfold cut31;omega
theorem min64 (n:Nat):(minI (n:Int) 64).toNat=min n 64∧0≤minI (n:Int) 64:=by
 unfold minI
 split<;>omega
theorem take64 {α:Type} (l:List α):(l.take (min l.length 64)).drop 0=l.take 64:=by
 rw [List.drop_zero]
 by_cases h:l.length≤64
 ·rw [Nat.min_eq_left h,List.take_of_length_le (Nat.le_refl _),List.take_of_length_le h]
 ·rw [Nat.min_eq_right (by omega)]
theorem A6e (p q:A0):cmpP p q<0↔pLt p q:=A5a p q
theorem B2o {l:List A1} (h:∀ c∈l,rt c) (hn:(pf l).Nodup) (hl:l.length≤64):Tot (H9 l) (fun r=>r.Perm l∧Chx r):=by
 have aR':∀ c∈l,aR c.fPrefix.fAddr:=fun c hc=>(h c hc).val.addr.1
 unfold H9
 obtain⟨r,e,h1,h2⟩:=A9m (xs:=l) (cmp:=fun x y=>A0f x y) (fun x y=>cmpP x.fPrefix y.fPrefix) (fun x hx y hy=>by unfold A0f;exact K7 (B36 (aR' x hx) (aR' y hy)) rfl) (fun x _=>by rw [A6e];exact B37 _)
  (fun x hx y hy z hz h3 h4=>by
   rw [A6e] at *
   exact A59 (aR' x hx) (aR' y hy) (aR' z hz) h3 h4)
  (fun x hx y hy z hz h3 h4 h5=>by
   rw [A6e] at *
   by_cases h6:pLt y.fPrefix x.fPrefix
   ·exact h4 (A59 (aR' y hy) (aR' x hx) (aR' z hz) h6 h5)
   ·rw [B05 (aR' x hx) (aR' y hy) h3 h6] at h5;exact h4 h5) (by omega)
 refine Tot.of e ⟨h1,fun c hc=>h c (h1.mem_iff.1 hc),?_,by rw [h1.length_eq];omega⟩
 have hnr:(pf r).Nodup:=(h1.map _).nodup_iff.2 hn
 have hp:r.Pairwise fun a b=>pLt a.fPrefix b.fPrefix:=by
  rw [List.pairwise_iff_getElem] at h2 ⊢
  intro i j hi hj hij
  have:=h2 i j hi hj hij
  rw [A6e] at this
  refine Classical.byContradiction fun hn => ?_
  have e':=B05 (aR' _ (h1.mem_iff.1 (List.getElem_mem hi))) (aR' _ (h1.mem_iff.1 (List.getElem_mem hj))) hn this
  have h3:(pf r)[i]'(by simpa [pf] using hi)=(pf r)[j]'(by simpa [pf] using hj):=by simpa [pf] using e'
  have:=(List.getElem_inj hnr).1 h3
  omega
 unfold asc
 rw [List.pairwise_map]
 exact hp
theorem B65 {l:List A1} (h:(pf l).Nodup) (n:Nat):(pf (l.take n)).Nodup:=by
 unfold pf at *
 rw [List.map_take]
 exact h.sublist (List.take_sublist _ _)
def SendR (q:F9) (r:List A1) (y:F9×List C9×Int):Prop :=
 y=(F9.mk (keepF (SP ((packF r).take (cut31 q.fBucket (packF r)))) q.fPending) (bk' q.fBucket (cut31 q.fBucket (packF r))),(packF r).take (cut31 q.fBucket (packF r)),0)
theorem B66 {r:List A1} (h:Chs r):∀ u∈packF r,u.fWithdraw.length≤100000∧u.fAnnounce.length≤100000:=fun u hu=>by
 have:=B50 h u hu
 exact this.2
theorem B1u {k:Nat} {q:F9} (h:QOk k q):Tot (A0g q) (fun y=>∃ r,r.Perm (q.fPending.take 64)∧Chx r∧SendR q r y):=by
 have hlen:=h.len;have hk:=h.k20;have hl0:=h.l0;have hb0:=h.b0
 unfold A0g
 refine Tot.bindOf (qvalid h) (Tot.iteF rfl ?_)
 obtain⟨m1,m2⟩:=min64 q.fPending.length
 refine Tot.chk (by rw [m1];simp;omega) ?_
 rw [m1,take64]
 have ht:∀ c∈q.fPending.take 64,rt c:=fun c hc=>h.all c (List.mem_of_mem_take hc)
 have htl:(q.fPending.take 64).length≤64:=by simp;omega
 refine Tot.bindOf (A5v ht (by omega)) ?_
 refine Tot.bindT (B2o ht (B65 h.nod 64) htl) fun r hr => ?_
 obtain⟨r1,r2⟩:=hr
 have hrl:=r1.length_eq
 refine Tot.chk (by rw [hrl];simp) ?_
 rw [List.drop_zero,← hrl,List.take_of_length_le (Nat.le_refl _)]
 refine Tot.bindOf (B3a r2.chs) ?_
 refine Tot.iteF rfl ?_
 refine Tot.bindOf (A5v h.all (by omega)) ?_
 refine Tot.bindT (sends (by omega) (Nat.le_trans (A9r r2.chs) (by decide)) (B66 r2.chs)) fun x hx => ?_
 obtain⟨x1,x2⟩:=hx
 refine Tot.bindOf (B47 x1 (by omega)) (Tot.some ⟨r,r1,r2,?_⟩)
 unfold SendR
 rw [x2]
theorem QOk.send {k:Nat} {q:F9} (h:QOk k q) {r:List A1} {y:F9×List C9×Int} (hy:SendR q r y):QOk k y.1:=by
 have hl0:=h.l0;have hlen:=h.len
 unfold SendR at hy
 rw [hy]
 have hc:(cut31 q.fBucket (packF r):Int)≤q.fBucket.fLevel:=by unfold cut31;omega
 refine⟨h.b0,h.r0,?_,fun c hc=>h.all c (List.mem_filter.1 hc).1,?_,Nat.le_trans (B46 _ _) h.len,h.k20⟩
 ·show 0≤q.fBucket.fLevel-_∧q.fBucket.fLevel-_≤q.fBucket.fBurst
  omega
 ·exact h.nod.sublist (List.Sublist.map _ List.filter_sublist)
theorem B1v {k:Nat} {q:F9} (h:QOk k q):A28 q=some (F9.mk q.fPending (G4.mk (min (q.fBucket.fLevel+q.fBucket.fRate) q.fBucket.fBurst) q.fBucket.fRate q.fBucket.fBurst)):=by
 have hlen:=h.len;have hk:=h.k20;have h1:=h.b0;have h2:=h.r0;have h3:=h.l0
 unfold A28
 refine K7 (A6u h.all (by omega)) ?_
 unfold A3u
 rw [I3 (by omega) (by omega)]
 have:∀ a b:Int,minI a b=min a b:=fun a b=>by unfold minI;split<;>omega
 rw [this]
 rfl
theorem QOk.tick {k:Nat} {q:F9} (h:QOk k q):QOk k (F9.mk q.fPending (G4.mk (min (q.fBucket.fLevel+q.fBucket.fRate) q.fBucket.fBurst) q.fBucket.fRate q.fBucket.fBurst)):=by
 have h1:=h.b0;have h2:=h.r0;have h3:=h.l0
 refine⟨h1,h2,?_,h.all,h.nod,h.len,h.k20⟩
 show 0≤min _ _∧min _ _≤q.fBucket.fBurst
 omega
-- the decks' queues
theorem QOk.up {k k':Nat} {q:F9} (h:QOk k q) (hk:k≤k') (h20:k'≤20):QOk k' q:=⟨h.b0,h.r0,h.l0,h.all,h.nod,Nat.le_trans h.len (Nat.mul_le_mul_left _ hk),h20⟩
-- sending all
theorem A8z (l:List A1):SP (packF l)=UP l:=by
 unfold SP packF UP
 rw [List.flatMap_append,A6t]
 congr 1
 ·rw [A50 uW nm id (fun c=>by simp [nm,uW]),A2t,List.map_id]
 ·congr 1
  funext a
  rw [A50 (uAa a) nm id (fun c=>by simp [nm,uAa]),A2t,List.map_id]
theorem B5b {q:F9} {r:List A1} (h1:r.Perm (q.fPending.take 64)) (hl:q.fPending.length≤64):keepF (SP (packF r)) q.fPending=[]:=by
 rw [List.take_of_length_le hl] at h1
 unfold keepF
 rw [List.filter_eq_nil_iff]
 intro c hc
 have:c.fPrefix∈SP (packF r):=by
  rw [A8z,B0c]
  exact List.mem_map.2 ⟨c,h1.mem_iff.2 hc,rfl⟩
 simp [this]
def c8:A1:=A1.mk 0 (A0.mk zA 8) false zR
theorem B72:rt c8:=⟨⟨⟨⟨by decide,by decide⟩,.inr (by decide)⟩,by decide,by decide,by decide⟩,fun _=>rfl,(fun e=>by cases e)⟩
theorem awake31:Y9=some true:=by
 refine Tot.eq ?_
 unfold Y9
 have q0:QOk 0 (F9.mk [] (G4.mk 1 0 1)):=⟨by decide,by decide,by decide,(fun c hc=>by cases hc),List.nodup_nil,Nat.le_refl _,by omega⟩
 have hall:∀ c∈[c8],rt c:=fun c hc=>by rw [List.mem_singleton.1 hc];exact B72
 have hp:pushF [] [c8]=[c8]:=rfl
 have h1:=B3f q0 hall (by simp)
 rw [hp] at h1
 have h2:=q0.push (by omega) hall (by simp)
 rw [hp] at h2
 refine Tot.bindOf h1 ?_
 refine Tot.bindT (B1u h2) fun y hy => ?_
 obtain⟨r,r1,r2,hy⟩:=hy
 have hr:r=[c8]:=List.perm_singleton.1 r1
 have hpk:packF [c8]=[uW [c8.fPrefix]]:=by
  have e1:goneL [c8]=[c8.fPrefix]:=rfl
  have e2:FO [c8]=[]:=by simp [FO,foS,c8]
  unfold packF
  rw [e1,e2]
  simp [chunks,ck]
 have hcut:cut31 (G4.mk 1 0 1) [uW [c8.fPrefix]]=1:=rfl
 unfold SendR at hy
 rw [hr,hpk,hcut] at hy
 have hkeep:keepF (SP ([uW [c8.fPrefix]].take 1)) [c8]=[]:=by
  have:=B5b (q:=F9.mk [c8] (G4.mk 1 0 1)) (r:=[c8]) (List.Perm.refl _) (by simp)
  rw [hpk] at this
  exact this
 rw [hkeep] at hy
 subst hy
 refine Tot.jn (Tot.iteT rfl ?_)
 refine Tot.bindOf (show S7 _=some true from rfl) (Tot.iteT rfl ?_)
 refine Tot.bindOf (show S7 _=some false from rfl) (Tot.some ?_)
 rfl
-- lists of routes as maps
def gR (l:List B3) (p:A0):Option B3:=l.find? fun r=>decide (r.fPrefix=p)
structure RL (l:List B3):Prop where
 all:∀ r∈l,rk r
 ord:asc (l.map (·.fPrefix))
theorem B2p (l m:List B3) (p:A0):gR (l++m) p=(gR l p).or (gR m p):=List.find?_append
theorem B3g {l:List B3} {p:A0}:gR l p=none↔∀ r∈l,r.fPrefix≠p:=by unfold gR;rw [List.find?_eq_none];simp
theorem B0d {l:List B3} (h:RL l) {r:B3}:gR l r.fPrefix=some r↔r∈l:=by
 constructor
 ·intro e;exact List.mem_of_find?_eq_some e
 ·intro hr
  cases e:gR l r.fPrefix with
  | none=>exact absurd rfl (B3g.1 e r hr)
  | some q =>
   have h1:q.fPrefix=r.fPrefix:=by have:=List.find?_some e;simpa using this
   have h2:=List.mem_of_find?_eq_some e
   obtain⟨i,hi,rfl⟩:=List.getElem_of_mem hr
   obtain⟨j,hj,rfl⟩:=List.getElem_of_mem h2
   have hn:=A3m h.ord
   have e':(l.map (·.fPrefix))[j]'(by simpa using hj)=(l.map (·.fPrefix))[i]'(by simpa using hi):=by simpa using h1
   have:=(List.getElem_inj hn).1 e'
   subst this;rfl
theorem B6w {l:List B3} {p:A0} {r:B3} (h:gR l p=some r):r.fPrefix=p:=by have:=List.find?_some h;simpa using this
theorem RL.uniq {l m:List B3} (hl:RL l) (hm:RL m) (h:∀ p,gR l p=gR m p):l=m:=by
 refine A5j (r:=fun a b=>pLt a.fPrefix b.fPrefix) (fun a b=>B1b) (List.pairwise_map.1 hl.ord) (List.pairwise_map.1 hm.ord) fun r => ?_
 rw [← B0d hl,← B0d hm,h]
theorem B48 (l:List B3) (k p:A0):gR (l.filter fun r => !peq r.fPrefix k) p=if p=k then none else gR l p:=by
 induction l with
 | nil=>simp [gR]
 | cons r l ih =>
  rw [List.filter_cons]
  by_cases h:r.fPrefix=k
  ·have:peq r.fPrefix k=true:=A17.2 h
   rw [this,Bool.not_true,if_neg (by simp),ih]
   by_cases e:p=k
   ·rw [if_pos e,if_pos e]
   ·rw [if_neg e,if_neg e]
    unfold gR
    rw [List.find?_cons,decide_eq_false (by rw [h];exact fun e'=>e e'.symm)]
  ·have:peq r.fPrefix k=false:=by rw [Bool.eq_false_iff];exact fun e=>h (A17.1 e)
   rw [this,Bool.not_false,if_pos rfl]
   unfold gR at ih ⊢
   rw [List.find?_cons,List.find?_cons]
   by_cases e2:r.fPrefix=p
   ·rw [decide_eq_true e2]
    simp only
    rw [if_neg]
    intro e3;exact h (e2.trans e3)
   ·rw [decide_eq_false e2]
    exact ih
theorem A9b {l:List B3} (h:∀ r∈l,rk r) (hn:l.length≤100000):I1 l=some l:=by
 refine Tot.eq ?_
 unfold I1
 refine Tot.bindRng (β:=Unit) l.length (fun i _=>((i:Int),l.take i)) (fun _ _=>True) (fun r=>r=l) () (by simp) trivial (fun i _ hi _ => ?_) (fun _ _ => ?_) (fun x hx=>Tot.some hx)
 ·unfold I5
  refine Tot.iteT (decide_eq_true (show(i:Int)<(l.length:Int) by omega)) ?_
  refine Tot.bindIdx i rfl hi ?_
  have hc:K0 l[i].fAttrs=some l[i].fAttrs:=by
   obtain⟨_,n,x,m,hd,e,_⟩:=h _ (List.getElem_mem hi)
   rw [e];exact B2f
  refine Tot.bindOf hc ?_
  refine Tot.chk (limB (by simp;omega)) ?_
  refine Tot.step () ?_ trivial
  rw [F3 hi (by omega),G8 hi]
 ·unfold I5
  refine Tot.iteF (decide_eq_false (show ¬ (l.length:Int)<(l.length:Int) by omega)) ?_
  exact Tot.last (List.take_of_length_le (Nat.le_refl _))
-- changes as functions
def eff (c:A1):Option B3:=if c.fHas=true then some c.fRoute else none
def PL (cs:List A1) (g:A0→Option B3) (p:A0):Option B3:=cs.foldl (fun v c=>if c.fPrefix=p then eff c else v) (g p)
theorem A6f (cs:List A1) (c:A1) (g:A0→Option B3) (p:A0):PL (cs++[c]) g p=if c.fPrefix=p then eff c else PL cs g p:=by unfold PL;rw [List.foldl_append];rfl
theorem A3w {g:A0→Option B3} {p:A0}:∀ {cs:List A1},(∀ c∈cs,c.fPrefix≠p)→PL cs g p=g p:=by
 refine fun {cs}=>A1u (Q:=fun cs=>(∀ c∈cs,c.fPrefix≠p)→PL cs g p=g p) (fun _=>rfl) (fun cs c ih h => ?_) cs
 rw [A6f,if_neg (h c (by simp)),ih fun d hd=>h d (List.mem_append_left _ hd)]
theorem A7w {g:A0→Option B3} {p:A0} {v:Option B3}:∀ {cs:List A1},(∀ c∈cs,c.fPrefix=p→eff c=v)→(∃ c∈cs,c.fPrefix=p)→PL cs g p=v:=by
 refine fun {cs}=>A1u (Q:=fun cs=>(∀ c∈cs,c.fPrefix=p→eff c=v)→(∃ c∈cs,c.fPrefix=p)→PL cs g p=v) (fun _ h=>by obtain⟨c,hc,_⟩:=h;cases hc) (fun cs c ih h hx => ?_) cs
 rw [A6f]
 by_cases e:c.fPrefix=p
 ·rw [if_pos e];exact h c (by simp) e
 ·rw [if_neg e]
  refine ih (fun d hd=>h d (List.mem_append_left _ hd)) ?_
  obtain⟨d,hd,he⟩:=hx
  rcases List.mem_append.1 hd with hd | hd
  ·exact⟨d,hd,he⟩
  ·rw [List.mem_singleton.1 hd] at he;exact absurd he e
theorem A6g {cs:List A1} {g g':A0→Option B3} {p:A0} (h:g p=g' p):PL cs g p=PL cs g' p:=by unfold PL;rw [h]
theorem B2q {l:List A1} (h:(pf l).Nodup) {c d:A1} (hc:c∈l) (hd:d∈l) (e:c.fPrefix=d.fPrefix):c=d:=by
 obtain⟨i,hi,rfl⟩:=List.getElem_of_mem hc
 obtain⟨j,hj,rfl⟩:=List.getElem_of_mem hd
 have e':(pf l)[i]'(by simpa [pf] using hi)=(pf l)[j]'(by simpa [pf] using hj):=by simpa [pf] using e
 have:=(List.getElem_inj h).1 e'
 subst this;rfl
theorem B0e {l:List A1} (h:(pf l).Nodup) {c:A1} (hc:c∈l) (g:A0→Option B3):PL l g c.fPrefix=eff c :=
 A7w (fun d hd e=>by rw [B2q h hd hc e]) ⟨c,hc,rfl⟩
theorem B6x {out:List A1} (h:(pf out).Nodup) (c:A1) (g:A0→Option B3) (p:A0):PL (putC out c) g p=if c.fPrefix=p then eff c else PL out g p:=by
 unfold putC
 by_cases hm:c.fPrefix∈pf out
 ·rw [if_pos hm]
  by_cases e:c.fPrefix=p
  ·rw [if_pos e]
   refine A7w (fun d hd ed => ?_) ?_
   ·obtain⟨x,hx,rfl⟩:=List.mem_map.1 hd
    split at ed
    ·rename_i h1;rw [if_pos h1]
    ·rename_i h1;exact absurd (ed.trans e.symm) h1
   ·obtain⟨x,hx,ex⟩:=List.mem_map.1 hm
    exact⟨c,List.mem_map.2 ⟨x,hx,by rw [if_pos ex]⟩,e⟩
  ·rw [if_neg e]
   by_cases hp:∃ x∈out,x.fPrefix=p
   ·obtain⟨x,hx,rfl⟩:=hp
    rw [B0e h hx]
    refine A7w (fun d hd ed => ?_) ⟨x,List.mem_map.2 ⟨x,hx,by rw [if_neg (fun e'=>e e'.symm)]⟩,rfl⟩
    obtain⟨y,hy,rfl⟩:=List.mem_map.1 hd
    split at ed
    ·exact absurd ed e
    ·rename_i h1
     rw [if_neg h1,B2q h hy hx ed]
   ·rw [A3w,A3w]
    ·exact fun x hx ex=>hp ⟨x,hx,ex⟩
    ·intro d hd ed
     obtain⟨y,hy,rfl⟩:=List.mem_map.1 hd
     split at ed
     ·exact e ed
     ·exact hp ⟨y,hy,ed⟩
 ·rw [if_neg hm,A6f]
theorem B67 {out:List A1} (h1:(pf out).Nodup) (h2:∀ c∈out,rt c) (g:A0→Option B3) (p:A0):∀ l:List A1,(∀ c∈l,rt c)→PL (pushF out l) g p=PL l (PL out g) p:=by
 refine A1u (fun _=>rfl) (fun l c ih hl => ?_)
 have hl':=fun x hx=>hl x (List.mem_append_left _ hx)
 rw [A3v,B6x (A8y h1 h2 l hl').1,A6f,ih hl']
-- playing
theorem B5c {l:List B3} (hl:RL l) (hn:l.length≤1000) {cs:List A1} (hc:∀ c∈cs,rt c) (hcn:cs.length≤1000):Tot (R2 l cs) (fun r=>RL r∧r.length≤l.length+cs.length∧∀ p,gR r p=PL cs (gR l) p):=by
 unfold R2
 refine Tot.bindOf (A9b hl.all (by omega)) ?_
 refine Tot.bindRng (β:=List B3) cs.length (fun i b=>(b,(i:Int))) (fun i b=>RL b∧b.length≤l.length+i∧∀ p,gR b p=PL (cs.take i) (gR l) p) (fun r=>RL r∧r.length≤l.length+cs.length∧∀ p,gR r p=PL cs (gR l) p) l rfl ⟨hl,by omega,fun p=>by simp [PL]⟩ (fun i b hi hI => ?_) (fun b hI => ?_) (fun x hx=>Tot.some hx)
 ·obtain⟨h1,h2,h3⟩:=hI
  have hci:=hc _ (List.getElem_mem hi)
  unfold X6
  refine Tot.iteT (decide_eq_true (show(i:Int)<(cs.length:Int) by omega)) ?_
  refine Tot.bindIdx i rfl hi ?_
  have hsn:∀ p,PL (cs.take (i+1)) (gR l) p=if cs[i].fPrefix=p then eff cs[i] else PL (cs.take i) (gR l) p:=fun p=>by rw [G8 hi,A6f]
  generalize cs[i]=c at hci hsn ⊢
  refine Tot.bindT (P':=fun nx=>nx=b.filter fun r => !peq r.fPrefix c.fPrefix) ?_ fun nx hnx => ?_
  ·refine Tot.rng (β:=Unit) b.length (fun j _=>((j:Int),(b.take j).filter fun r => !peq r.fPrefix c.fPrefix)) (fun _ _=>True) _ () (by simp) trivial (fun j _ hj _ => ?_) (fun _ _ => ?_)
   ·have hfl:=List.length_filter_le (fun r:B3 => !peq r.fPrefix c.fPrefix) (b.take j)
    unfold X5
    refine Tot.iteT (decide_eq_true (show(j:Int)<(b.length:Int) by omega)) ?_
    refine Tot.bindIdx j rfl hj ?_
    refine Tot.jnR (fun m=>m=(b.take (j+1)).filter fun r => !peq r.fPrefix c.fPrefix) (fun jj hjj => ?_) (fun m hm=>Tot.step () (by rw [F3 hj (by omega),hm]) trivial)
    have hs:(b.take (j+1)).filter (fun r => !peq r.fPrefix c.fPrefix)=(b.take j).filter (fun r => !peq r.fPrefix c.fPrefix)++if (!peq b[j].fPrefix c.fPrefix)=true then [b[j]] else []:=by
     rw [G8 hj,List.filter_append]
     congr 1
     rw [List.filter_cons,List.filter_nil]
    show Tot (if (!peq b[j].fPrefix c.fPrefix)=true then _ else _) _
    refine Tot.ite (fun e=>Tot.chk (limB (by simp at hfl ⊢;omega)) (hjj _ ?_)) (fun e=>hjj _ ?_)
    ·rw [hs,if_pos e]
    ·rw [hs,if_neg (by rw [e];simp),List.append_nil]
   ·unfold X5
    refine Tot.iteF (decide_eq_false (show ¬ (b.length:Int)<(b.length:Int) by omega)) ?_
    refine Tot.last ?_
    rw [List.take_of_length_le (Nat.le_refl _)]
  ·have hg:∀ p,gR nx p=if p=c.fPrefix then none else gR b p:=fun p=>by rw [hnx,B48]
   have hx1:∀ r∈nx,rk r:=fun r hr=>h1.all r (by rw [hnx] at hr;exact(List.mem_filter.1 hr).1)
   have hx2:asc (nx.map (·.fPrefix)):=by
    rw [hnx]
    exact h1.ord.sublist (List.Sublist.map _ List.filter_sublist)
   have hx3:nx.length≤b.length:=by rw [hnx];exact List.length_filter_le _ _
   have hnot:∀ r∈nx,r.fPrefix≠c.fPrefix:=fun r hr=>by
    rw [hnx] at hr
    have:=(List.mem_filter.1 hr).2
    intro e
    rw [A17.2 e] at this;cases this
   clear hnx
   refine Tot.jnR (fun m=>RL m∧m.length≤l.length+(i+1)∧∀ p,gR m p=PL (cs.take (i+1)) (gR l) p) (fun j hj => ?_) (fun m hm=>Tot.step m (by rw [F3 hi (by omega)]) hm)
   cases hh:c.fHas with
   | false =>
    refine Tot.iteF rfl (hj _ ⟨⟨hx1,hx2⟩,by omega,fun p => ?_⟩)
    rw [hsn,hg]
    by_cases e:c.fPrefix=p
    ·rw [if_pos e,if_pos e.symm];simp [eff,hh]
    ·rw [if_neg e,if_neg (fun e'=>e e'.symm),h3]
   | true =>
    refine Tot.iteT rfl ?_
    obtain⟨n,x,m,hd,hr,hbA⟩:=hci.h hh
    have hrk:rk c.fRoute:=by rw [hr];exact⟨hci.val,n,x,m,hd,rfl,hbA⟩
    have hrp:c.fRoute.fPrefix=c.fPrefix:=by rw [hr]
    refine Tot.bindLoop (fun s:Int=>∃ k:Nat,s=k∧k≤nx.length∧∀ (j:Nat) (hj:j<nx.length),j<k→pLt nx[j].fPrefix c.fPrefix) (fun s=>((nx.length:Int)-s).toNat) (fun s:Int=>∃ k:Nat,s=k∧k≤nx.length∧(∀ (j:Nat) (hj:j<nx.length),j<k→pLt nx[j].fPrefix c.fPrefix)∧∀ h:k<nx.length,¬ pLt nx[k].fPrefix c.fPrefix) ⟨0,rfl,Nat.zero_le _,fun j hj h=>absurd h (by omega)⟩ (fun s hs => ?_) (fun s hs => ?_)
    ·obtain⟨k,rfl,h4,h5⟩:=hs
     unfold A15
     refine Tot.jnR (fun m=>(m=true→∃ h:k<nx.length,pLt nx[k].fPrefix c.fPrefix)∧(m=false→∀ h:k<nx.length,¬ pLt nx[k].fPrefix c.fPrefix)) (fun jj hjj => ?_) (fun m hm => ?_)
     ·refine Tot.ite (fun e => ?_) (fun e => ?_)
      ·have hk:k<nx.length:=by have:=of_decide_eq_true e;omega
       refine Tot.bindIdx k rfl hk (Tot.bindIdx k rfl hk ?_)
       refine Tot.bindOf (B1a (hx1 _ (List.getElem_mem hk)).1.addr.1 hci.val.addr.1) ?_
       refine hjj _ ⟨fun e=>⟨hk,(A5a _ _).1 (of_decide_eq_true e)⟩,fun e h hlt => ?_⟩
       exact absurd ((A5a _ _).2 hlt) (of_decide_eq_false e)
      ·have hk:¬ k<nx.length:=by have:=of_decide_eq_false e;omega
       exact hjj _ ⟨(fun e=>by cases e),fun _ h=>absurd h hk⟩
     ·refine Tot.ite (fun e => ?_) (fun e => ?_)
      ·obtain⟨hk,hlt⟩:=hm.1 e
       have hw:=F3 hk (n:=nx.length) (by omega)
       refine Tot.next ⟨k+1,hw,hk,fun j hj hjk => ?_⟩ (by rw [hw];omega)
       by_cases hjk':j=k
       ·subst hjk';exact hlt
       ·exact h5 j hj (by omega)
      ·exact Tot.out ⟨k,rfl,h4,h5,hm.2 e⟩
    ·obtain⟨k,rfl,h4,h5,h6⟩:=hs
     have hkn:((k:Nat):Int).toNat=k:=by omega
     refine Tot.chk (by simp;omega) (Tot.chk (decide_eq_true (by show((k:Nat):Int).toNat+(nx.length-((k:Nat):Int).toNat)≤nx.length;omega)) (Tot.chk (limB (by simp;omega)) (Tot.chk (by simp;omega) ?_)))
     refine Tot.bindOf (copyRoute hrk) ?_
     refine Tot.chk (by simp) (Tot.chk (limB (by simp;omega)) (Tot.chk (limB (by simp;omega)) ?_))
     simp only [hkn]
     have hdr:(nx.drop k).take (nx.length-k)=nx.drop k:=List.take_of_length_le (by simp)
     rw [hdr]
     refine hj _ ⟨⟨fun r hr => ?_,?_⟩,by simp;omega,fun p => ?_⟩
     ·rcases List.mem_append.1 hr with hr | hr
      ·rcases List.mem_append.1 hr with hr | hr
       ·exact hx1 r (List.mem_of_mem_take hr)
       ·rw [List.mem_singleton.1 hr];exact hrk
      ·exact hx1 r (List.mem_of_mem_drop hr)
     ·have:=B3b (l:=nx.map (·.fPrefix)) (p:=c.fPrefix) (fun q hq=>by
       obtain⟨r,hr,rfl⟩:=List.mem_map.1 hq
       exact(hx1 r hr).1.addr.1) hci.val.addr.1 hx2 (k:=k) (by simpa using h4) (fun j hj hjk=>by
       simp only [List.getElem_map];exact h5 j (by simpa using hj) hjk) (fun hlt=>by
       simp only [List.getElem_map]
       exact⟨h6 (by simpa using hlt),hnot _ (List.getElem_mem _)⟩)
      simpa [List.map_take,List.map_drop,hrp] using this
     ·rw [hsn,B2p,B2p]
      have hsplit:gR nx p=(gR (nx.take k) p).or (gR (nx.drop k) p):=by rw [← B2p,List.take_append_drop]
      have h1r:gR [c.fRoute] p=if c.fPrefix=p then some c.fRoute else none:=by
       unfold gR
       rw [List.find?_cons,hrp]
       by_cases e:c.fPrefix=p<;>simp [e]
      rw [h1r]
      by_cases e:c.fPrefix=p
      ·rw [if_pos e,if_pos e]
       have ht:gR (nx.take k) p=none:=B3g.2 fun r hr=>by rw [← e];exact hnot r (List.mem_of_mem_take hr)
       rw [ht]
       simp [eff,hh]
      ·rw [if_neg e,if_neg e,Option.or_none,← hsplit,hg,if_neg (fun e'=>e e'.symm),h3]
 ·unfold X6
  refine Tot.iteF (decide_eq_false (show ¬ (cs.length:Int)<(cs.length:Int) by omega)) ?_
  refine Tot.last ?_
  obtain⟨h1,h2,h3⟩:=hI
  rw [List.take_of_length_le (Nat.le_refl _)] at h3
  exact⟨h1,h2,h3⟩
theorem A44 {l:List B3} (h:RL l) (hn:l.length≤100000):N0 l l=some true:=by
 refine Tot.eq ?_
 unfold N0
 refine Tot.iteF (by simp) ?_
 refine Tot.bindRng l.length (fun i (_:Unit)=>(i:Int)) (fun _ _=>True) (fun x=>x = .inr ()) () rfl trivial (fun i _ hi _ => ?_) (fun _ _ => ?_) (fun x hx=>by subst hx;exact Tot.some rfl)
 ·unfold M5
  refine Tot.iteT (decide_eq_true (by omega)) ?_
  refine Tot.bindIdx i rfl hi (Tot.bindIdx i rfl hi ?_)
  refine Tot.bindOf (A8w (.inl (h.all _ (List.getElem_mem hi)))) (Tot.iteF rfl ?_)
  exact Tot.step () (F3 hi (by omega)) trivial
 ·unfold M5
  refine Tot.iteF (decide_eq_false (by omega)) ?_
  exact Tot.last rfl
-- what messages say, by the document
theorem B5d {n m:Int} {x:E7} (h:dOk n x m):Z2 (mkD n x m).fPath=some (n,true):=by
 unfold Z2
 simp only [mkD,jn]
 rw [B1e h.asn]
 simp [idx]
theorem rulW {to:Int} {u:C9} {s:List A1} (hl:u.fWithdraw.length≤100000) (hs:s.length≤10000000):loop (O6 to u) ((0:Int),s)=some (s++u.fWithdraw.map (wC to)):=by
 refine Tot.eq ?_
 refine Tot.rng (β:=Unit) u.fWithdraw.length (fun i _=>((i:Int),s++(u.fWithdraw.take i).map (wC to))) (fun _ _=>True) _ () (by simp) trivial (fun i _ hi _ => ?_) (fun _ _ => ?_)
 ·unfold O6
  refine Tot.iteT (decide_eq_true (show(i:Int)<(u.fWithdraw.length:Int) by omega)) ?_
  refine Tot.bindIdx i rfl hi ?_
  refine Tot.chk (limB (by simp;omega)) ?_
  refine Tot.step () ?_ trivial
  rw [F3 hi (by omega),G8 hi,List.map_append,← List.append_assoc]
  rfl
 ·unfold O6
  refine Tot.iteF (decide_eq_false (show ¬ (u.fWithdraw.length:Int)<(u.fWithdraw.length:Int) by omega)) ?_
  refine Tot.last ?_
  rw [List.take_of_length_le (Nat.le_refl _)]
theorem rulA {to:Int} {u:C9} {s:List A1} (hc:u.fAnnounce=[]∨isD u.fAttrs) (hl:u.fAnnounce.length≤100000) (hs:s.length≤10000000):loop (O7 to u) ((0:Int),s)=some (s++u.fAnnounce.map (aC to u.fAttrs)):=by
 refine Tot.eq ?_
 refine Tot.rng (β:=Unit) u.fAnnounce.length (fun i _=>((i:Int),s++(u.fAnnounce.take i).map (aC to u.fAttrs))) (fun _ _=>True) _ () (by simp) trivial (fun i _ hi _ => ?_) (fun _ _ => ?_)
 ·rcases hc with hc | hc
  ·rw [hc] at hi;cases hi
  ·unfold O7
   refine Tot.iteT (decide_eq_true (show(i:Int)<(u.fAnnounce.length:Int) by omega)) ?_
   refine Tot.bindIdx i rfl hi ?_
   have h1:Z2 u.fAttrs.fPath=some (asnA u.fAttrs,true):=by
    obtain⟨n,x,m,hd,e⟩:=hc
    rw [e];exact B5d hd
   refine Tot.bindOf h1 ?_
   refine Tot.bindOf (B4z hc) ?_
   refine Tot.chk (limB (by simp;omega)) ?_
   refine Tot.step () ?_ trivial
   rw [F3 hi (by omega),G8 hi,List.map_append,← List.append_assoc]
   rfl
 ·unfold O7
  refine Tot.iteF (decide_eq_false (show ¬ (u.fAnnounce.length:Int)<(u.fAnnounce.length:Int) by omega)) ?_
  refine Tot.last ?_
  rw [List.take_of_length_le (Nat.le_refl _)]
theorem B2r {l:List C9} {to:Int} (h:∀ u∈l,uOk u) (hn:(l.flatMap (says to)).length≤1000) (hl:l.length≤4000000):R5 l to=some (l.flatMap (says to)):=by
 refine Tot.eq ?_
 unfold R5
 have part:∀ i,((l.take i).flatMap (says to)).length≤1000:=fun i=>by
  have:l.flatMap (says to)=(l.take i).flatMap (says to)++(l.drop i).flatMap (says to):=by rw [← List.flatMap_append,List.take_append_drop]
  rw [this,List.length_append] at hn
  omega
 refine Tot.bindRng (β:=Unit) l.length (fun i _=>((i:Int),(l.take i).flatMap (says to))) (fun _ _=>True) (fun r=>r=l.flatMap (says to)) () (by simp) trivial (fun i _ hi _ => ?_) (fun _ _ => ?_) (fun x hx=>Tot.some hx)
 ·obtain⟨h1,h2,h3⟩:=h _ (List.getElem_mem hi)
  have hp:=part i
  unfold S8
  refine Tot.iteT (decide_eq_true (show(i:Int)<(l.length:Int) by omega)) ?_
  refine Tot.bindIdx i rfl hi ?_
  refine Tot.bindOf (rulW (by omega) (by simp only;omega)) ?_
  refine Tot.bindOf (rulA (h1.imp (fun e=>e.2) id) (by omega) (by rw [List.length_append,List.length_map];show((l.take i).flatMap (says to)).length+_≤_;omega)) ?_
  refine Tot.step () ?_ trivial
  rw [F3 hi (by omega),G8 hi,List.flatMap_append,List.append_assoc]
  simp [says]
 ·unfold S8
  refine Tot.iteF (decide_eq_false (show ¬ (l.length:Int)<(l.length:Int) by omega)) ?_
  refine Tot.last ?_
  rw [List.take_of_length_le (Nat.le_refl _)]
theorem A90:∀ {l m:List A0},l.Nodup→(∀ x∈l,x∈m)→l.length≤m.length
 | [],m,_,_=>Nat.zero_le _
 | x :: l,m,hn,h=>by
  rw [List.nodup_cons] at hn
  have hm:=h x (List.mem_cons_self ..)
  have ih:=A90 (l:=l) (m:=m.erase x) hn.2 fun y hy=>by
   refine(List.mem_erase_of_ne ?_).2 (h y (List.mem_cons_of_mem _ hy))
   rintro rfl;exact hn.1 hy
  rw [List.length_erase_of_mem hm] at ih
  have:=List.length_pos_of_mem hm
  simp only [List.length_cons];omega
theorem B5e:BL.length=8:=rfl
def RB (l:List B3):Prop:=RL l∧∀ r∈l,bk r.fPrefix
theorem RB.len {l:List B3} (h:RB l):l.length≤8:=by
 have:=A90 (l:=l.map (·.fPrefix)) (m:=BL) (A3m h.1.ord) fun x hx=>by
  obtain⟨r,hr,rfl⟩:=List.mem_map.1 hx
  exact h.2 r hr
 simpa [B5e] using this
theorem B1w {l:List A1} (h:(pf l).Nodup) (hb:∀ c∈l,bk c.fPrefix):l.length≤8:=by
 have:=A90 (l:=pf l) (m:=BL) h fun x hx=>by
  obtain⟨r,hr,rfl⟩:=List.mem_map.1 hx
  exact hb r hr
 simpa [pf,B5e] using this
theorem B68 {g:A0→Option B3} {p:A0} {v:B3}:∀ {cs:List A1},PL cs g p=some v→(∃ c∈cs,c.fPrefix=p)∨g p=some v:=fun {cs} h=>by
 by_cases e:∃ c∈cs,c.fPrefix=p
 ·exact .inl e
 ·rw [A3w fun c hc ec=>e ⟨c,hc,ec⟩] at h
  exact .inr h
theorem playB {l:List B3} (hl:RB l) {cs:List A1} (hc:∀ c∈cs,rt c) (hb:∀ c∈cs,bk c.fPrefix) (hcn:cs.length≤900):Tot (R2 l cs) (fun r=>RB r∧∀ p,gR r p=PL cs (gR l) p):=by
 have hlen:=hl.len
 refine(B5c hl.1 (by omega) hc (by omega)).mono fun r hr => ?_
 obtain⟨h1,_,h3⟩:=hr
 refine⟨⟨h1,fun x hx => ?_⟩,h3⟩
 have e:=(B0d h1).2 hx
 rw [h3] at e
 rcases B68 e with ⟨c,hc',ec⟩ | e
 ·rw [← ec];exact hb c hc'
 ·have:=B6w e
  exact hl.2 x (List.mem_of_find?_eq_some e)
-- what is sent
theorem B69 (us:List C9):pf (us.flatMap (says 5))=SP us:=by
 unfold pf SP
 rw [List.map_flatMap]
 congr 1
 funext u
 unfold says nm
 rw [List.map_append,List.map_map,List.map_map]
 rw [show((fun c:A1=>c.fPrefix) ∘ wC 5)=fun p=>p from rfl,show((fun c:A1=>c.fPrefix) ∘ aC 5 u.fAttrs)=fun p=>p from rfl,List.map_id',List.map_id']
theorem B5f {r:List A1} (h:Chx r) (n:Nat):(∀ c∈((packF r).take n).flatMap (says 5),∃ y∈r,c=A1.mk 5 y.fPrefix y.fHas y.fRoute)∧(((packF r).take n).flatMap (says 5)).length≤r.length:=by
 have hs:UL 5 r=((packF r).take n).flatMap (says 5)++((packF r).drop n).flatMap (says 5):=by rw [← B2n,← List.flatMap_append,List.take_append_drop]
 refine⟨fun c hc=>B6u h (by rw [hs];exact List.mem_append_left _ hc),?_⟩
 have:=B6t h 5
 rw [hs,List.length_append] at this
 omega
theorem B49 {pend CS:List A1} {S:List A0} (hn:(pf pend).Nodup) (hS:pf CS=S) (hC:∀ c∈CS,∃ y∈pend,c=A1.mk 5 y.fPrefix y.fHas y.fRoute) (g:A0→Option B3) (p:A0):PL (keepF S pend) (PL CS g) p=PL pend g p:=by
 by_cases hp:p∈S
 ·rw [← hS] at hp
  obtain⟨c,hc,ec⟩:=List.mem_map.1 hp
  obtain⟨y,hy,e⟩:=hC c hc
  have eyp:y.fPrefix=p:=by rw [← ec,e]
  have h1:PL CS g p=eff y:=A7w (fun d hd ed=>by
   obtain⟨z,hz,ez⟩:=hC d hd
   have:z=y:=B2q hn hz hy (by rw [eyp,← ed,ez])
   subst this
   rw [ez];rfl) ⟨c,hc,ec⟩
  rw [A3w,h1,← eyp,B0e hn hy]
  intro d hd ed
  have:=(List.mem_filter.1 hd).2
  rw [ed,← hS] at this
  simp [hp] at this
 ·have h1:PL CS g p=g p:=A3w fun c hc ec=>hp (by rw [← hS];exact List.mem_map.2 ⟨c,hc,ec⟩)
  rw [A6g h1]
  by_cases hx:∃ y∈pend,y.fPrefix=p
  ·obtain⟨y,hy,rfl⟩:=hx
   have hk:y∈keepF S pend:=List.mem_filter.2 ⟨hy,by simp [hp]⟩
   have hkn:(pf (keepF S pend)).Nodup:=hn.sublist (List.Sublist.map _ List.filter_sublist)
   rw [B0e hn hy,B0e hkn hk]
  ·rw [A3w,A3w]
   ·exact fun y hy ey=>hx ⟨y,hy,ey⟩
   ·exact fun y hy ey=>hx ⟨y,(List.mem_filter.1 hy).1,ey⟩
structure SentR (q:F9) (th:List B3) (y:F9×List C9×Int) (CS:List A1):Prop where
 ok:y.2.2=0
 un:R5 y.2.1 5=some CS
 rts:∀ c∈CS,rt c
 bks:∀ c∈CS,bk c.fPrefix
 len:CS.length≤64
 sub:∀ c∈y.1.fPending,c∈q.fPending
 lead:∀ g p,PL y.1.fPending (PL CS g) p=PL q.fPending g p
 less:1≤q.fBucket.fLevel→q.fPending≠[]→y.1.fPending.length<q.fPending.length
 rate:y.1.fBucket.fRate=q.fBucket.fRate
theorem sentR {k:Nat} {q:F9} (h:QOk k q) (hb:∀ c∈q.fPending,bk c.fPrefix) (th:List B3):Tot (A0g q) (fun y=>QOk k y.1∧∃ CS,SentR q th y CS):=by
 refine(B1u h).mono fun y hy => ?_
 obtain⟨r,r1,r2,hy⟩:=hy
 refine⟨h.send hy,?_⟩
 have hrq:∀ c∈r,c∈q.fPending:=fun c hc=>List.mem_of_mem_take (r1.mem_iff.1 hc)
 have hrl:r.length≤64:=by rw [r1.length_eq,List.length_take];omega
 obtain⟨c1,c2⟩:=B5f r2 (cut31 q.fBucket (packF r))
 have hpl:=A9r r2.chs
 refine⟨((packF r).take (cut31 q.fBucket (packF r))).flatMap (says 5),?_⟩
 unfold SendR at hy
 have e1:y.2.1=(packF r).take (cut31 q.fBucket (packF r)):=by rw [hy]
 have e2:y.1.fPending=keepF (SP ((packF r).take (cut31 q.fBucket (packF r)))) q.fPending:=by rw [hy]
 refine⟨by rw [hy],?_,fun c hc => ?_,fun c hc => ?_,by omega,fun c hc => ?_,fun g p => ?_,fun hl hp => ?_,by rw [hy];rfl⟩
 ·rw [e1]
  exact B2r (fun u hu=>B45 r2.chs u (List.mem_of_mem_take hu)) (by omega) (by rw [List.length_take];omega)
 ·obtain⟨z,hz,rfl⟩:=c1 c hc
  have:=r2.all z hz
  exact⟨this.val,this.z,this.h⟩
 ·obtain⟨z,hz,rfl⟩:=c1 c hc
  exact hb z (hrq z hz)
 ·rw [e2] at hc;exact(List.mem_filter.1 hc).1
 ·rw [e2]
  exact B49 h.nod (B69 _) (fun c hc=>by
   obtain⟨z,hz,e⟩:=c1 c hc
   exact⟨z,hrq z hz,e⟩) g p
 ·rw [e2]
  have hr0:r≠[]:=fun e=>by
   rw [e] at r1
   have h1:=r1.length_eq
   have h0:=List.length_pos_iff.2 hp
   rw [List.length_nil,List.length_take] at h1
   omega
  have hpk:packF r≠[]:=fun e=>by
   have h1:=A8z r
   rw [e] at h1
   obtain⟨z,hz⟩:=List.exists_mem_of_ne_nil _ hr0
   have h2:=(B0c (l:=r) z.fPrefix).2 (List.mem_map.2 ⟨z,hz,rfl⟩)
   rw [← h1] at h2
   simp [SP] at h2
  obtain⟨u,us,hu⟩:=List.exists_cons_of_ne_nil hpk
  have hcut:1≤cut31 q.fBucket (packF r):=by unfold cut31;rw [hu];simp;omega
  have hum:u∈packF r:=by rw [hu];exact List.mem_cons_self ..
  obtain⟨p,hpn⟩:∃ p,p∈nm u:=by
   rcases A9s r2.chs hum with ⟨c,rfl,_,h0⟩ | ⟨n,x,m,c,_,rfl,_,h0⟩
   ·obtain⟨p,hp⟩:=List.exists_mem_of_ne_nil _ h0
    exact⟨p,by simpa [nm,uW] using hp⟩
   ·obtain⟨p,hp⟩:=List.exists_mem_of_ne_nil _ h0
    exact⟨p,by simpa [nm,uA] using hp⟩
  have hps:p∈SP ((packF r).take (cut31 q.fBucket (packF r))):=by
   unfold SP
   refine List.mem_flatMap.2 ⟨u,?_,hpn⟩
   rw [hu]
   obtain⟨n,hn⟩:∃ n,cut31 q.fBucket (packF r)=n+1:=⟨cut31 q.fBucket (packF r)-1,by omega⟩
   rw [hu] at hn
   rw [hn,List.take_succ_cons]
   exact List.mem_cons_self ..
  have hpu:p∈UP r:=by
   rw [← A8z]
   exact List.mem_flatMap.2 ⟨u,hum,hpn⟩
  obtain⟨z,hz,ez⟩:=List.mem_map.1 ((B0c p).1 hpu)
  unfold keepF
  refine(List.length_filter_lt_length_iff_exists).2 ⟨z,hrq z hz,?_⟩
  rw [ez];simp [hps]
-- the law
theorem B4a (a0:List Int) (h0:(∀ y∈a0,I64 y)∧a0.length≤maxLen):Z3 a0=some true:=by
 refine Tot.eq ?_
 unfold Z3
 refine Tot.bindOf (show P8 a0=some (decide ((a0.length:Int)≤400)) from rfl) ?_
 refine Tot.ite (fun _=>Tot.bindOf awake31 (Tot.some rfl)) (fun _ => ?_)
 refine Tot.bindOf (show P6 a0=some ⟨a0,0⟩ from rfl) ?_
 refine Tot.bindT (A4z _ (B6r a0 h0.2) 3 (by omega) (by omega)) fun x0 hx0 => ?_
 have e1:w64 (1+x0.1)=1+x0.1:=I3 (by omega) (by omega)
 rw [e1]
 have q0:QOk 0 (F9.mk [] (G4.mk 0 1 (1+x0.1))):=by
  refine⟨?_,?_,?_,(fun c hc=>by cases hc),List.nodup_nil,Nat.le_refl _,by omega⟩
  ·show 1≤1+x0.1∧1+x0.1≤1000;omega
  ·show(0:Int)≤1∧1≤1+x0.1;omega
  ·show(0:Int)≤0∧0≤1+x0.1;omega
 have nil:RB []:=⟨⟨(fun r hr=>by cases hr),List.Pairwise.nil⟩,(fun r hr=>by cases hr)⟩
 refine Tot.bindRng (β:=List B3×List B3×F9×C4) 12 (fun i b=>(b.1,b.2.1,(i:Int),b.2.2.1,b.2.2.2))
  (fun i b=>RB b.1∧RB b.2.1∧QOk i b.2.2.1∧(∀ c∈b.2.2.1.fPending,bk c.fPrefix)∧b.2.2.1.fBucket.fRate=1∧(0<i→1≤b.2.2.1.fBucket.fLevel)∧(∀ p,PL b.2.2.1.fPending (gR b.2.1) p=gR b.1 p)∧DeckOk b.2.2.2)
  (fun x=>∃ of th q,x = .inr (of,th,q)∧RB of∧RB th∧QOk 12 q∧(∀ c∈q.fPending,bk c.fPrefix)∧q.fBucket.fRate=1∧1≤q.fBucket.fLevel∧∀ p,PL q.fPending (gR th) p=gR of p)
  ([],[],F9.mk [] (G4.mk 0 1 (1+x0.1)),x0.2) rfl ⟨nil,nil,q0,(fun c hc=>by cases hc),rfl,fun h=>absurd h (by omega),fun p=>rfl,hx0.2.2⟩ (fun i b hi hI => ?_) (fun b hI => ?_) (fun x hx => ?_)
 ·obtain⟨of,th,q,d⟩:=b
  obtain⟨hof,hth,hq,hqb,hra,_,hlead,hd⟩:=hI
  simp only at hof hth hq hqb hra hlead hd
  unfold N6
  refine Tot.iteT (decide_eq_true (show(i:Int)<12 by omega)) ?_
  refine Tot.bindT (B1p d hd 5) fun r hr => ?_
  obtain⟨⟨hc,hcl,hct⟩,hd'⟩:=hr
  refine Tot.bindT (A4z r.2 hd' 2 (by omega) (by omega)) fun x hx => ?_
  refine Tot.jnR (fun m=>RB m.1∧QOk (i+1) m.2∧(∀ c∈m.2.fPending,bk c.fPrefix)∧m.2.fBucket.fRate=1∧∀ p,PL m.2.fPending (gR th) p=gR m.1 p) (fun j hj => ?_) (fun m hm => ?_)
  ·refine Tot.ite (fun _ => ?_) (fun _=>hj _ ⟨hof,hq.up (by omega) (by omega),hqb,hra,hlead⟩)
   refine Tot.bindT (playB hof hc.all (fun c hcc=>(hct c hcc).2) (by omega)) fun o ho => ?_
   refine Tot.bindOf (B3f hq hc.all (by omega)) (Tot.iteF rfl ?_)
   refine hj _ ⟨ho.1,hq.push (by omega) hc.all (by omega),fun c hcc => ?_,hra,fun p => ?_⟩
   ·have key:∀ l:List A1,(∀ c∈l,bk c.fPrefix)→∀ c∈pushF q.fPending l,bk c.fPrefix:=by
     refine A1u (fun _=>hqb) (fun l d ih hl c hc => ?_)
     rw [A3v] at hc
     rcases B1s hc with hc | rfl
     ·exact ih (fun x hx=>hl x (List.mem_append_left _ hx)) c hc
     ·exact hl _ (by simp)
    exact key _ (fun c hcc=>(hct c hcc).2) c hcc
   ·show PL (pushF q.fPending r.1) (gR th) p=gR o p
    rw [B67 hq.nod hq.all _ p _ hc.all,ho.2 p]
    exact A6g (hlead p)
  ·obtain⟨m1,m2⟩:=m
   obtain⟨h1,h2,h3,h4,h5⟩:=hm
   simp only at h1 h2 h3 h4 h5
   refine Tot.bindT (sentR h2 h3 th) fun y hy => ?_
   obtain⟨hyq,CS,hs⟩:=hy
   refine Tot.iteF (by show(y.2.2 != 0)=false;rw [hs.ok];rfl) ?_
   refine Tot.bindOf (B1v hyq) ?_
   refine Tot.bindOf hs.un ?_
   refine Tot.bindT (playB hth hs.rts hs.bks (by have:=hs.len;omega)) fun t ht => ?_
   have hyb:∀ c∈y.1.fPending,bk c.fPrefix:=fun c hcc=>h3 c (hs.sub c hcc)
   have hyl:=B1w hyq.nod hyb
   refine Tot.bindT (playB ht.1 hyq.all hyb (show y.1.fPending.length≤900 by omega)) fun z hz => ?_
   have hl2:∀ p,PL y.1.fPending (gR t) p=gR m1 p:=fun p=>by
    rw [A6g (ht.2 p),hs.lead,h5]
   have ez:z=m1:=hz.1.1.uniq h1.1 fun p=>by rw [hz.2 p,hl2 p]
   rw [ez]
   refine Tot.bindOf (A44 h1.1 (by have:=h1.len;omega)) (Tot.iteF rfl ?_)
   have hyr:y.1.fBucket.fRate=1:=by rw [hs.rate];exact h4
   refine Tot.step (m1,t,_,x.2) (by rw [F3 (n:=12) hi (by omega)]) ⟨h1,ht.1,hyq.tick,hyb,hyr,fun _ => ?_,hl2,hx.2.2⟩
   show 1≤min (y.1.fBucket.fLevel+y.1.fBucket.fRate) y.1.fBucket.fBurst
   have g1:=hyq.l0;have g2:=hyq.b0
   omega
 ·obtain⟨of,th,q,d⟩:=b
  obtain⟨hof,hth,hq,hqb,hra,hlv,hlead,hd⟩:=hI
  unfold N6
  refine Tot.iteF (decide_eq_false (show ¬ ((12:Nat):Int)<12 by decide)) ?_
  exact Tot.last ⟨of,th,q,rfl,hof,hth,hq,hqb,hra,hlv (by omega),hlead⟩
 ·obtain⟨of,th,q,rfl,hof,hth,hq,hqb,hra,hlv,hlead⟩:=hx
  have hpl:=B1w hq.nod hqb
  refine Tot.bindLoop (fun s:List B3×Int×F9=>∃ n:Nat,s.2.1=n∧s.2.2.fPending.length+n≤8∧RB s.1∧QOk 12 s.2.2∧(∀ c∈s.2.2.fPending,bk c.fPrefix)∧s.2.2.fBucket.fRate=1∧1≤s.2.2.fBucket.fLevel∧∀ p,PL s.2.2.fPending (gR s.1) p=gR of p) (fun s=>s.2.2.fPending.length)
   (fun x=>∃ q:F9,x = .inr (of,q)∧q.fPending=[]) ⟨0,rfl,by simpa using hpl,hth,hq,hqb,hra,hlv,hlead⟩ (fun s hs => ?_) (fun x hx => ?_)
  ·obtain⟨th,kk,q⟩:=s
   obtain⟨n,e,hn,hth,hq,hqb,hra,hlv,hlead⟩:=hs
   simp only at e hn hth hq hqb hra hlv hlead
   subst e
   unfold S0
   refine Tot.jnR (fun m=>(m=true→q.fPending≠[])∧(m=false→q.fPending=[])) (fun j hj => ?_) (fun m hm => ?_)
   ·refine Tot.iteT (decide_eq_true (show(n:Int)<40 by omega)) ?_
    refine Tot.bindOf (show S7 q=some ((q.fPending.length:Int)==0) from rfl) (hj _ ⟨fun e e' => ?_,fun e => ?_⟩)
    ·rw [e'] at e;simp at e
    ·simp at e;exact e
   ·cases m with
    | true =>
     have hp0:=hm.1 rfl
     refine Tot.iteT rfl ?_
     refine Tot.bindT (sentR hq hqb th) fun y hy => ?_
     obtain⟨hyq,CS,hs⟩:=hy
     refine Tot.iteF (by show(y.2.2 != 0)=false;rw [hs.ok];rfl) ?_
     refine Tot.bindOf (B1v hyq) ?_
     refine Tot.bindOf hs.un ?_
     refine Tot.bindT (playB hth hs.rts hs.bks (by have:=hs.len;omega)) fun t ht => ?_
     have hyb:∀ c∈y.1.fPending,bk c.fPrefix:=fun c hcc=>hqb c (hs.sub c hcc)
     have hless:=hs.less hlv hp0
     have hyr:y.1.fBucket.fRate=1:=by rw [hs.rate];exact hra
     refine Tot.next ⟨n+1,F3 (n:=40) (by omega) (by omega),by show y.1.fPending.length+(n+1)≤8;omega,ht.1,hyq.tick,hyb,hyr,?_,fun p => ?_⟩ hless
     ·show 1≤min (y.1.fBucket.fLevel+y.1.fBucket.fRate) y.1.fBucket.fBurst
      have g1:=hyq.l0;have g2:=hyq.b0
      omega
     ·show PL y.1.fPending (gR t) p=gR of p
      rw [A6g (ht.2 p),hs.lead,hlead]
    | false =>
     have hp0:=hm.2 rfl
     refine Tot.iteF rfl (Tot.out ⟨q,?_,hp0⟩)
     have:th=of:=hth.1.uniq hof.1 fun p=>by
      have:=hlead p
      rw [hp0] at this
      exact this
     rw [this]
  ·obtain⟨q,rfl,hp0⟩:=hx
   refine Tot.jn ?_
   refine Tot.bindOf (show S7 q=some true by unfold S7;rw [hp0];rfl) (Tot.iteT rfl ?_)
   refine Tot.bindOf (A44 hof.1 (by have:=hof.len;show of.length≤100000;omega)) (Tot.iteT rfl ?_)
   exact Tot.bindOf awake31 (Tot.some rfl)
end Go.Proofs.YtplbaenjbihekaaGreatDoor
