/- Queues and the law, in plain Lean. -/
import Derived.Test.YtplbaenjbihekaaGreatDoorPureZC
import Derived.Test.YtplbaenjbihekaaGreatDoorVcMP
namespace Go.Proofs.YtplbaenjbihekaaGreatDoor
open Go Go.Vc
instance decP:DecidableEq A1:=fun p q=>if h:peq p q=true then isTrue (A13.1 h) else isFalse fun e=>h (A13.2 e)
theorem keyP:KeyLaw keq33:=fun a b=>by rw [B7f];exact A13
theorem B5q {c:A2} (h:rt c):rk c.fRoute∨c.fRoute=zR:=by
 cases hh:c.fHas with
 | false=>exact .inr (h.z hh)
 | true =>
  obtain⟨n,x,m,h1,h2,h3⟩:=h.h hh;left;rw [h2];exact⟨h.val,n,x,m,h1,rfl,h3⟩
theorem C0p:V2 zR.fAttrs=some zR.fAttrs:=by
 unfold V2;rw [B9];simp [U8,zR,A2k,A2l,chk,LIM];rw [B9];simp [A0l]
theorem C1d:G8 zR.fAttrs=some zR.fAttrs:=by
 unfold G8;rw [B9];simp [L3,zR,chk,LIM];rw [B9];simp [O9]
theorem B9q {c:A2} (h:rt c):A22 c.fRoute=some c.fRoute:=by
 unfold A22;rcases B5q h with ⟨_,n,x,m,hd,e,_⟩ | e
 ·rw [e];exact J7 B77 rfl
 ·rw [e];exact J7 C0p rfl
theorem C0q {c:A2} (h:rt c):G8 c.fRoute.fAttrs=some c.fRoute.fAttrs:=by
 rcases B5q h with ⟨_,n,x,m,hd,e,_⟩ | e
 ·rw [e];exact B6e
 ·rw [e];exact C1d
theorem A9y {l:List A2} (h:∀ c∈l,rt c) (hn:l.length≤100000):Z6 l=some l:=by
 refine Tot.eq ?_;unfold Z6;refine Tot.bindRng (β:=Unit) l.length (fun i _=>((i:Int),l.take i)) (fun _ _=>True) (fun r=>r=l) () (by simp) trivial (fun i _ hi _ => ?_) (fun _ _ => ?_) (fun x hx=>Tot.some hx)
 ·unfold V0;refine Tot.iteT (decide_eq_true (show(i:Int)<(l.length:Int) by omega)) ?_;refine Tot.bindIdx i rfl hi ?_;refine Tot.bindOf (B9q (h _ (List.getElem_mem hi))) ?_;refine Tot.chk (limB (by simp;omega)) ?_;refine Tot.step () ?_ trivial;rw [D6 hi (by omega),G2 hi]
 ·unfold V0;refine Tot.iteF (decide_eq_false (show ¬ (l.length:Int)<(l.length:Int) by omega)) ?_;exact Tot.last (List.take_of_length_le (Nat.le_refl _))
theorem A8s {l:List A2} (h:∀ c∈l,rt c) (hn:l.length≤100000):R3 l=some l:=A9y h hn
theorem A86 {l:List A2} (h:∀ c∈l,rt c) (hn:l.length≤100000):S8 l=some l:=by
 refine Tot.eq ?_;unfold S8;refine Tot.bindRng (β:=Unit) l.length (fun i _=>((i:Int),l.take i)) (fun _ _=>True) (fun r=>r=l) () (by simp) trivial (fun i _ hi _ => ?_) (fun _ _ => ?_) (fun x hx=>Tot.some hx)
 ·unfold U2;refine Tot.iteT (decide_eq_true (show(i:Int)<(l.length:Int) by omega)) ?_;refine Tot.bindIdx i rfl hi ?_;refine Tot.bindOf (C0q (h _ (List.getElem_mem hi))) ?_;refine Tot.chk (limB (by simp;omega)) ?_;refine Tot.step () ?_ trivial;rw [D6 hi (by omega),G2 hi]
 ·unfold U2;refine Tot.iteF (decide_eq_false (show ¬ (l.length:Int)<(l.length:Int) by omega)) ?_;exact Tot.last (List.take_of_length_le (Nat.le_refl _))
theorem B6m {l:List A2} (h:∀ c∈l,rt c) (hn:l.length≤100000):A1l l=some l:=A86 h hn
def pf (l:List A2):List A1:=l.map (·.fPrefix)
theorem A7u {l:List A2} {i:Nat} (h:i<(pf l).length):(pf l)[i]=(l[i]'(by simpa [pf] using h)).fPrefix:=by simp [pf]
structure QOk (k:Nat) (q:E6):Prop where
 b0:1≤q.fBucket.fBurst∧q.fBucket.fBurst≤1000
 r0:0≤q.fBucket.fRate∧q.fBucket.fRate≤q.fBucket.fBurst
 l0:0≤q.fBucket.fLevel∧q.fBucket.fLevel≤q.fBucket.fBurst
 all:∀ c∈q.fPending,rt c
 nod:(pf q.fPending).Nodup
 len:q.fPending.length≤200*k
 k20:k≤20
theorem B7g {c:A2} (h:rt c):A12 c=some true:=by
 have hc:Chs [c]:=⟨fun x hx=>by rw [List.mem_singleton.1 hx];exact h.gd,fun i hi=>absurd hi (by simp),by simp⟩;unfold A12;exact J7 (B7d hc) rfl
theorem B5r {β:Type} {v:A1→β} {k:A1}:∀ {l:List A1},k∉l→mix keq33 k (l.map fun p=>(p,v p))=none
 | [],_=>rfl
 | p :: l,h=>by
  rw [List.mem_cons,not_or] at h;rw [List.map_cons,mix,if_neg,B5r h.2]
  ·rfl
  ·rw [B7f,A13];exact h.1
theorem B2u {l:List A1} (hn:l.Nodup) {i:Nat} (hi:i<l.length):l[i]∉l.take i:=fun hm=>by
 rw [List.mem_take_iff_getElem] at hm;obtain⟨j,hj,e⟩:=hm;have:=(List.getElem_inj hn).1 e;omega
theorem mvalid {k:Nat} {q:E6} (h:QOk k q):A3x q.fBucket=some true:=by
 have h1:=h.b0;have h2:=h.r0;have h3:=h.l0;unfold A3x;congr 1;simp only [Bool.and_eq_true,decide_eq_true_eq];omega
theorem qvalid {k:Nat} {q:E6} (h:QOk k q):A3e q=some true:=by
 have hlen:=h.len;have hk:=h.k20;refine Tot.eq ?_;unfold A3e;refine Tot.bindOf (mvalid h) ?_;refine Tot.iteF (by simp;omega) ?_;have hpl:(pf q.fPending).length=q.fPending.length:=by simp [pf]
 refine Tot.bindRng (β:=Unit) q.fPending.length (fun i _=>((i:Int),((pf q.fPending).take i).map fun p=>(p,true))) (fun _ _=>True) (fun r=>r = .inr ()) () (by simp) trivial (fun i _ hi _ => ?_) (fun _ _ => ?_) (fun x hx=>by subst hx;exact Tot.some rfl)
 ·unfold A1d;refine Tot.iteT (decide_eq_true (show(i:Int)<(q.fPending.length:Int) by omega)) ?_;refine Tot.bindIdx i rfl hi ?_;have hp:q.fPending[i].fPrefix=(pf q.fPending)[i]'(by omega):=by simp [pf]
  have hm:=B5r (v:=fun _=>true) (B2u h.nod (i:=i) (by omega));refine Tot.jnR (fun m=>m=false) (fun j hj => ?_) (fun m hm' => ?_)
  ·refine Tot.iteF ?_ ?_
   ·rw [hp];unfold mget;rw [hm];rfl
   ·exact Tot.bindOf (B7g (h.all _ (List.getElem_mem hi))) (hj _ rfl)
  ·subst hm';refine Tot.iteF rfl (Tot.step () ?_ trivial);rw [D6 hi (by omega),hp,B4w hm,G2 (by omega),List.map_append];rfl
 ·unfold A1d;refine Tot.iteF (decide_eq_false (show ¬ (q.fPending.length:Int)<(q.fPending.length:Int) by omega)) ?_;exact Tot.last rfl
def putC (out:List A2) (c:A2):List A2:=if c.fPrefix∈pf out then out.map (fun d=>if d.fPrefix=c.fPrefix then c else d) else out++[c]
def pushF (out l:List A2):List A2:=l.foldl putC out
theorem B7h (out:List A2) (c:A2):pf (putC out c)=if c.fPrefix∈pf out then pf out else pf out++[c.fPrefix]:=by
 unfold putC
 by_cases h:c.fPrefix∈pf out
 ·rw [if_pos h,if_pos h];unfold pf;rw [List.map_map];refine List.map_congr_left fun d _ => ?_;simp only [Function.comp];split
  ·rename_i e;exact e.symm
  ·rfl
 ·rw [if_neg h,if_neg h];simp [pf]
theorem B9r {out:List A2} (c:A2) (h:(pf out).Nodup):(pf (putC out c)).Nodup:=by
 rw [B7h];split
 ·exact h
 ·rename_i hn;rw [List.nodup_append];exact⟨h,by simp,fun a ha b hb e=>by cases List.mem_singleton.1 hb;subst e;exact hn ha⟩
theorem B9s {out:List A2} {c d:A2} (h:d∈putC out c):d∈out∨d=c:=by
 unfold putC at h;split at h
 ·obtain⟨e,he,rfl⟩:=List.mem_map.1 h;split
  ·exact .inr rfl
  ·exact .inl he
 ·rcases List.mem_append.1 h with h | h
  ·exact .inl h
  ·exact .inr (List.mem_singleton.1 h)
theorem B9t (out:List A2) (c:A2):out.length≤(putC out c).length∧(putC out c).length≤out.length+1:=by
 unfold putC;split<;>simp
theorem B7i {out:List A2} (h:(pf out).Nodup) {c:A2} {j:Nat} (hj:j<out.length) (e:out[j].fPrefix=c.fPrefix):out.set j c=putC out c:=by
 have hm:c.fPrefix∈pf out:=by rw [← e];exact List.mem_map.2 ⟨_,List.getElem_mem hj,rfl⟩
 unfold putC;rw [if_pos hm];refine List.ext_getElem (by simp) fun i h1 h2 => ?_;rw [List.getElem_set,List.getElem_map];have hi:i<out.length:=by simpa using h1
 by_cases hij:j=i
 ·subst hij;rw [if_pos rfl,if_pos e]
 ·rw [if_neg hij,if_neg];intro e';have h3:(pf out)[j]'(by simpa [pf] using hj)=(pf out)[i]'(by simpa [pf] using hi):=by simp [pf,e,e']
  exact hij ((List.getElem_inj h).1 h3)
theorem B5s {out:List A2} {c:A2} (h:c.fPrefix∉pf out):putC out c=out++[c]:=by unfold putC;rw [if_neg h]
theorem A8t (out l:List A2) (c:A2):pushF out (l++[c])=putC (pushF out l) c:=by unfold pushF;rw [List.foldl_append];rfl
theorem B2v {out:List A2} (h1:(pf out).Nodup) (h2:∀ c∈out,rt c):∀ l:List A2,(∀ c∈l,rt c)→(pf (pushF out l)).Nodup∧(∀ c∈pushF out l,rt c)∧(pushF out l).length≤out.length+l.length:=by
 refine A69 (fun _=>⟨h1,h2,by simp [pushF]⟩) (fun l c ih hl => ?_);obtain⟨a1,a2,a3⟩:=ih fun x hx=>hl x (List.mem_append_left _ hx);rw [A8t];refine⟨B9r c a1,fun d hd => ?_,?_⟩
 ·rcases B9s hd with hd | rfl
  ·exact a2 d hd
  ·exact hl _ (List.mem_append_right _ (List.mem_singleton.2 rfl))
 ·have:=(B9t (pushF out l) c).2;simp;omega
def PM (m:List (A1×Int)) (l:List A2):Prop:=(∀ (j:Nat) (h:j<l.length),mget keq33 m l[j].fPrefix=some (j:Int))∧∀ p,p∉pf l→mget keq33 m p=none
theorem PM.snoc {m:List (A1×Int)} {l:List A2} (h:PM m l) {c:A2} (hc:c.fPrefix∉pf l):PM (mput keq33 m c.fPrefix (l.length:Int)) (l++[c]):=by
 refine⟨fun j hj => ?_,fun p hp => ?_⟩
 ·rw [A7x keyP]
  by_cases hjl:j<l.length
  ·rw [List.getElem_append_left hjl,if_neg,h.1 j hjl];intro e;exact hc (by rw [← e];exact List.mem_map.2 ⟨_,List.getElem_mem hjl,rfl⟩)
  ·have:j=l.length:=by simp at hj;omega
   subst this;simp
 ·rw [A7x keyP,if_neg,h.2 p]
  ·intro hm;exact hp (by simp only [pf,List.map_append];exact List.mem_append_left _ hm)
  ·rintro rfl;exact hp (by simp [pf])
theorem PM.keep {m:List (A1×Int)} {l l':List A2} (h:PM m l) (e:pf l'=pf l):PM m l':=by
 have hl:l'.length=l.length:=by have:=congrArg List.length e;simpa [pf] using this
 refine⟨fun j hj => ?_,fun p hp=>h.2 p (by rw [← e];exact hp)⟩;have h1:(pf l')[j]'(by simpa [pf] using hj)=(pf l)[j]'(by simp [pf];omega):=by simp only [e]
 have h2:l'[j].fPrefix=(l[j]'(by omega)).fPrefix:=by simpa [pf] using h1
 rw [h2];exact h.1 j (by omega)
theorem goods {l:List A2} (h:∀ c∈l,rt c) (hn:l.length≤100000):M1 l=some false:=by
 refine Tot.eq ?_;unfold M1 X1;refine Tot.bindT (P':=fun r=>r = -1) ?_ fun r hr=>Tot.some (by rw [hr];rfl);refine Tot.bindRng (β:=Unit) l.length (fun i _=>(i:Int)) (fun _ _=>True) (fun r=>r = .inr ()) () rfl trivial (fun i _ hi _ => ?_) (fun _ _ => ?_) (fun x hx=>by subst hx;exact Tot.some rfl)
 ·unfold M0;refine Tot.iteT (decide_eq_true (by omega)) ?_;refine Tot.bindIdx i rfl hi ?_;have:A3z l[i]=some false:=by unfold A3z;exact J7 (B7g (h _ (List.getElem_mem hi))) rfl
  refine Tot.bindOf this (Tot.iteF rfl ?_);exact Tot.step () (D6 hi (by omega)) trivial
 ·unfold M0;refine Tot.iteF (decide_eq_false (by omega)) ?_;exact Tot.last rfl
theorem B7j {k:Nat} {q:E6} (h:QOk k q) {a:List A2} (ha:∀ c∈a,rt c) (hn:a.length≤90):A4k q a=some (E6.mk (pushF q.fPending a) q.fBucket,0):=by
 have hlen:=h.len;have hk:=h.k20;refine Tot.eq ?_;unfold A4k;refine Tot.jnR (fun m=>m=false) (fun j hj => ?_) (fun m hm => ?_)
 ·refine Tot.bindOf (qvalid h) (Tot.iteF rfl ?_);exact Tot.bindOf (goods ha (by omega)) (hj _ rfl)
 ·subst hm;refine Tot.iteF rfl ?_;refine Tot.bindOf (A8s h.all (by omega)) ?_;refine Tot.bindT (P':=fun m=>PM m q.fPending) ?_ fun m hm => ?_
  ·have hpl:(pf q.fPending).length=q.fPending.length:=by simp [pf]
   refine Tot.rng (β:=List (A1×Int)) q.fPending.length (fun i m=>((i:Int),m)) (fun i m=>PM m (q.fPending.take i)) _ [] rfl ⟨fun j hj=>absurd hj (by simp),fun p _=>rfl⟩ (fun i m hi hI => ?_) (fun m hI => ?_)
   ·unfold A2y;refine Tot.iteT (decide_eq_true (show(i:Int)<(q.fPending.length:Int) by omega)) ?_;refine Tot.bindIdx i rfl hi (Tot.bindIdx i rfl hi ?_);refine Tot.step _ (by rw [D6 hi (by omega)]) ?_;have hnot:q.fPending[i].fPrefix∉pf (q.fPending.take i):=by
     have:=B2u h.nod (i:=i) (by omega);rw [A7u] at this;unfold pf at this ⊢;rwa [List.map_take]
    have:=hI.snoc hnot;rw [List.length_take,Nat.min_eq_left (by omega)] at this;rw [G2 hi];exact this
   ·unfold A2y;refine Tot.iteF (decide_eq_false (show ¬ (q.fPending.length:Int)<(q.fPending.length:Int) by omega)) ?_;rw [List.take_of_length_le (Nat.le_refl _)] at hI;exact Tot.last hI
  ·refine Tot.bindOf (A9y ha (by omega)) ?_;have hp:=B2v h.nod h.all;have part:∀ i,∀ c∈a.take i,rt c:=fun i c hc=>ha c (List.mem_of_mem_take hc);refine Tot.bindRng (β:=List (A1×Int)) a.length (fun i m=>((i:Int),m,pushF q.fPending (a.take i))) (fun i m=>PM m (pushF q.fPending (a.take i))) (fun r=>r=pushF q.fPending a) m (by simp [pushF]) (by simpa [pushF] using hm) (fun i m hi hI => ?_) (fun m hI => ?_) (fun x hx => ?_)
   ·obtain⟨p1,p2,p3⟩:=hp (a.take i) (part i);rw [List.length_take] at p3;unfold A2z;refine Tot.iteT (decide_eq_true (show(i:Int)<(a.length:Int) by omega)) ?_;have hsn:pushF q.fPending (a.take (i+1))=putC (pushF q.fPending (a.take i)) a[i]:=by rw [G2 hi,A8t]
    refine Tot.jnR (fun m'=>PM m'.1 m'.2∧m'.2=pushF q.fPending (a.take (i+1))) (fun j hj => ?_) (fun m' hm'=>Tot.step m'.1 (by rw [D6 hi (by omega),hm'.2]) (by rw [← hm'.2];exact hm'.1));refine Tot.bindIdx i rfl hi ?_
    by_cases hc:a[i].fPrefix∈pf (pushF q.fPending (a.take i))
    ·obtain⟨t,ht,e⟩:=List.getElem_of_mem hc;have ht':t<(pushF q.fPending (a.take i)).length:=by simpa [pf] using ht
     rw [A7u] at e;have hg:=hI.1 t ht';rw [e] at hg;refine Tot.iteT (by rw [hg];rfl) ?_;refine Tot.bindIdx t (by rw [hg];rfl) ht' (Tot.bindIdx t (by rw [hg];rfl) ht' ?_);refine hj _ ?_;have h5:=B7i p1 ht' e;have h6:((mget keq33 m a[i].fPrefix).getD 0).toNat=t:=by rw [hg];simp
     simp only [h6];rw [h5,hsn];refine⟨hI.keep ?_,rfl⟩;rw [B7h,if_pos hc]
    ·have hg:=hI.2 _ hc;refine Tot.iteF (by rw [hg];rfl) ?_;refine Tot.chk (limB (by simp;omega)) ?_;refine hj _ ⟨hI.snoc hc,?_⟩;rw [hsn,B5s hc]
   ·unfold A2z;refine Tot.iteF (decide_eq_false (show ¬ (a.length:Int)<(a.length:Int) by omega)) ?_;refine Tot.last ?_;rw [List.take_of_length_le (Nat.le_refl _)]
   ·subst hx;have:=(hp a ha).2.2;refine Tot.iteF (decide_eq_false (by omega)) (Tot.some rfl)
theorem QOk.push {k:Nat} {q:E6} (h:QOk k q) (hk:k<20) {a:List A2} (ha:∀ c∈a,rt c) (hn:a.length≤200):QOk (k+1) (E6.mk (pushF q.fPending a) q.fBucket):=by
 obtain⟨h1,h2,h3⟩:=B2v h.nod h.all a ha;have:=h.len;exact⟨h.b0,h.r0,h.l0,h2,h1,(by show(pushF q.fPending a).length≤_;omega),hk⟩
-- the document
theorem rvalidq {k:Nat} {q:E6} (h:QOk k q):A0v q=some true:=by
 have hlen:=h.len;have hk:=h.k20;refine Tot.eq ?_;unfold A0v;refine Tot.bindOf (show A4e q.fBucket=some true from mvalid h) ?_;refine Tot.iteF (by simp;omega) ?_;refine Tot.bindRng (β:=Unit) q.fPending.length (fun i _=>(i:Int)) (fun _ _=>True) (fun r=>r = .inr ()) () rfl trivial (fun i _ hi _ => ?_) (fun _ _ => ?_) (fun x hx=>by subst hx;exact Tot.some rfl)
 ·unfold Y4;refine Tot.iteT (decide_eq_true (by omega)) ?_;refine Tot.bindIdx i rfl hi ?_;refine Tot.bindOf (B4c (h.all _ (List.getElem_mem hi)).gd) (Tot.iteF rfl ?_);have hin:((i:Nat):Int).toNat=i:=by omega
  refine Tot.chk (by simp;omega) ?_;have hlt:((q.fPending.take ((i:Nat):Int).toNat).drop 0).length=i:=by rw [hin];simp;omega
  refine Tot.bindRng (β:=Unit) i (fun j _=>(j:Int)) (fun _ _=>True) (fun r=>r = .inr ()) () rfl trivial (fun j _ hj _ => ?_) (fun _ _ => ?_) (fun x hx=>by subst hx;exact Tot.step () (D6 hi (by omega)) trivial)
  ·unfold Y3;refine Tot.iteT (decide_eq_true (by rw [hlt];omega)) ?_;refine Tot.bindIdx j rfl (by rw [hlt];exact hj) ?_;refine Tot.iteF ?_ (Tot.step () (D6 hj (by omega)) trivial);have e1:((q.fPending.take ((i:Nat):Int).toNat).drop 0)[j]'(by rw [hlt];exact hj)=q.fPending[j]'(by omega):=by simp
   rw [e1];have:peq (q.fPending[j]'(by omega)).fPrefix q.fPending[i].fPrefix=false:=by
    rw [Bool.eq_false_iff];intro e;have e:=A13.1 e;have h3:(pf q.fPending)[j]'(by simp [pf];omega)=(pf q.fPending)[i]'(by simp [pf];omega):=by simpa [pf] using e
    have:=(List.getElem_inj h.nod).1 h3;omega
   exact this
  ·unfold Y3;refine Tot.iteF (decide_eq_false (by rw [hlt];omega)) ?_;exact Tot.last rfl
 ·unfold Y4;refine Tot.iteF (decide_eq_false (by omega)) ?_;exact Tot.last rfl
theorem B9u {k:Nat} {q:E6} (h:QOk k q) {a:List A2} (ha:∀ c∈a,rt c) (hn:a.length≤90):A3u q a=some (E6.mk (pushF q.fPending a) q.fBucket,0):=by
 have hlen:=h.len;have hk:=h.k20;refine Tot.eq ?_;unfold A3u;refine Tot.bindOf (rvalidq h) (Tot.iteF rfl ?_);refine Tot.bindT (P':=fun x=>x = .inr ()) ?_ fun x hx => ?_
 ·refine Tot.rng (β:=Unit) a.length (fun i _=>(i:Int)) (fun _ _=>True) _ () rfl trivial (fun i _ hi _ => ?_) (fun _ _ => ?_)
  ·unfold A0g;refine Tot.iteT (decide_eq_true (by omega)) ?_;refine Tot.bindIdx i rfl hi ?_;refine Tot.bindOf (B4c (ha _ (List.getElem_mem hi)).gd) (Tot.iteF rfl ?_);exact Tot.step () (D6 hi (by omega)) trivial
  ·unfold A0g;refine Tot.iteF (decide_eq_false (by omega)) ?_;exact Tot.last rfl
 ·subst hx;refine Tot.bindOf (B6m h.all (by omega)) ?_;refine Tot.bindOf (A86 ha (by omega)) ?_;have hp:=B2v h.nod h.all;have part:∀ i,∀ c∈a.take i,rt c:=fun i c hc=>ha c (List.mem_of_mem_take hc);refine Tot.bindRng (β:=List A2) a.length (fun i b=>((i:Int),b)) (fun i b=>b=pushF q.fPending (a.take i)) (fun r=>r=pushF q.fPending a) q.fPending rfl (by simp [pushF]) (fun i out hi hI => ?_) (fun out hI => ?_) (fun x hx => ?_)
  ·obtain⟨p1,p2,p3⟩:=hp (a.take i) (part i);rw [List.length_take] at p3;have hsn:pushF q.fPending (a.take (i+1))=putC (pushF q.fPending (a.take i)) a[i]:=by rw [G2 hi,A8t]
   unfold A0h;refine Tot.iteT (decide_eq_true (show(i:Int)<(a.length:Int) by omega)) ?_;refine Tot.bindIdx i rfl hi ?_;rw [← hI] at p1 p2 p3 hsn;clear hI;refine Tot.bindLoop (fun s:Int=>∃ t:Nat,s=t∧t≤out.length∧∀ (j:Nat) (hj:j<out.length),j<t→out[j].fPrefix≠a[i].fPrefix) (fun s=>((out.length:Int)-s).toNat) (fun s:Int=>∃ t:Nat,s=t∧t≤out.length∧(∀ (j:Nat) (hj:j<out.length),j<t→out[j].fPrefix≠a[i].fPrefix)∧∀ h:t<out.length,out[t].fPrefix=a[i].fPrefix) ⟨0,rfl,Nat.zero_le _,fun j hj h=>absurd h (by omega)⟩ (fun s hs => ?_) (fun s hs => ?_)
   ·obtain⟨t,rfl,h4,h5⟩:=hs;unfold A2f;refine Tot.jnR (fun m=>(m=true→∃ h:t<out.length,out[t].fPrefix≠a[i].fPrefix)∧(m=false→∀ h:t<out.length,out[t].fPrefix=a[i].fPrefix)) (fun j hj => ?_) (fun m hm => ?_)
    ·refine Tot.ite (fun e => ?_) (fun e => ?_)
     ·have ht:t<out.length:=by have:=of_decide_eq_true e;simp only at this;omega
      refine Tot.bindIdx t rfl ht (Tot.bindIdx t rfl ht ?_);show Tot (j (!(peq out[t].fPrefix a[i].fPrefix))) _;refine hj _ ⟨fun e=>⟨ht,fun e' => ?_⟩,fun e h => ?_⟩
      ·rw [A13.2 e'] at e;cases e
      ·cases hq:peq out[t].fPrefix a[i].fPrefix with
       | true=>exact A13.1 hq
       | false=>rw [hq] at e;cases e
     ·have ht:¬ t<out.length:=by have:=of_decide_eq_false e;simp only at this;omega
      exact hj _ ⟨(fun e=>by cases e),fun _ h=>absurd h ht⟩
    ·refine Tot.ite (fun e => ?_) (fun e => ?_)
     ·obtain⟨ht,hne⟩:=hm.1 e;have hw:=D6 ht (n:=out.length) (by omega);refine Tot.next ⟨t+1,hw,ht,fun j hj hjt => ?_⟩ (by rw [hw];omega)
      by_cases hjt':j=t
      ·subst hjt';exact hne
      ·exact h5 j hj (by omega)
     ·exact Tot.out ⟨t,rfl,h4,h5,hm.2 e⟩
   ·obtain⟨t,rfl,h4,h5,h6⟩:=hs;refine Tot.jnR (fun m=>(t<out.length∧m=out)∨(t=out.length∧m=out++[a[i]])) (fun j hj => ?_) (fun m hm => ?_)
    ·refine Tot.ite (fun e => ?_) (fun e => ?_)
     ·have ht:t=out.length:=by simp at e;omega
      refine Tot.chk (limB (by simp;omega)) (hj _ (.inr ⟨ht,rfl⟩))
     ·have ht:t≠out.length:=by simp at e;omega
      exact hj _ (.inl ⟨by omega,rfl⟩)
    ·rcases hm with ⟨ht,rfl⟩ | ⟨ht,rfl⟩
     ·refine Tot.bindIdx t rfl ht (Tot.bindIdx t rfl ht ?_);refine Tot.step (putC m a[i]) ?_ hsn.symm;have h7:((t:Nat):Int).toNat=t:=by omega
      simp only [h7];rw [D6 hi (by omega),B7i p1 ht (h6 ht)]
     ·have hnot:a[i].fPrefix∉pf out:=fun hm=>by
       obtain⟨j,hj,e⟩:=List.getElem_of_mem hm;rw [A7u] at e;have hj':j<out.length:=by simpa [pf] using hj
       exact h5 j hj' (by omega) e
      subst ht;refine Tot.bindIdx out.length rfl (by simp) (Tot.bindIdx out.length rfl (by simp) ?_);refine Tot.step (putC out a[i]) ?_ hsn.symm;have h7:((out.length:Nat):Int).toNat=out.length:=by omega
      simp only [h7];rw [D6 hi (by omega),B5s hnot];simp
  ·unfold A0h;refine Tot.iteF (decide_eq_false (show ¬ (a.length:Int)<(a.length:Int) by omega)) ?_;refine Tot.last ?_;rw [hI,List.take_of_length_le (Nat.le_refl _)]
  ·subst hx;have:=(hp a ha).2.2;refine Tot.iteF (decide_eq_false (by omega)) (Tot.some rfl)
def nm (u:A7):List A1:=u.fWithdraw++u.fAnnounce
def SP (us:List A7):List A1:=us.flatMap nm
def DM (d:List (A1×Bool)) (S:List A1):Prop:=∀ p,(mget keq33 d p).getD false=decide (p∈S)
theorem DM.put {d:List (A1×Bool)} {S:List A1} (h:DM d S) (p:A1):DM (mput keq33 d p true) (S++[p]):=fun q=>by
 rw [A7x keyP]
 by_cases e:q=p
 ·subst e;simp
 ·rw [if_neg e,h q];simp [e]
theorem DM.nil:DM [] []:=fun p=>rfl
def keepF (S:List A1) (l:List A2):List A2:=l.filter fun c => !decide (c.fPrefix∈S)
theorem A6o (S:List A1) (l:List A2) (c:A2):keepF S (l++[c])=if c.fPrefix∈S then keepF S l else keepF S l++[c]:=by
 unfold keepF;rw [List.filter_append]
 by_cases h:c.fPrefix∈S<;>simp [h]
theorem B3r (S:List A1) (l:List A2):(keepF S l).length≤l.length:=List.length_filter_le _ _
theorem firstdel {d:List (A1×Bool)} {S:List A1} (h:DM d S) {l:List A2} (hn:l.length≤100000):Tot (Q2 l d) (fun r=>(r = -1∧∀ c∈l,c.fPrefix∉S)∨∃ (i:Nat) (hi:i<l.length),r=i∧l[i].fPrefix∈S∧∀ (j:Nat) (hj:j<l.length),j<i→l[j].fPrefix∉S):=by
 unfold Q2;refine Tot.bindRng (β:=Unit) l.length (fun i _=>(i:Int)) (fun i _=>∀ (j:Nat) (hj:j<l.length),j<i→l[j].fPrefix∉S) (fun x=>(x = .inr ()∧∀ c∈l,c.fPrefix∉S)∨∃ (i:Nat) (hi:i<l.length),x = .inl (i:Int)∧l[i].fPrefix∈S∧∀ (j:Nat) (hj:j<l.length),j<i→l[j].fPrefix∉S) () rfl (fun j _ h=>absurd h (by omega)) (fun i _ hi hI => ?_) (fun _ hI => ?_) (fun x hx => ?_)
 ·unfold M2;refine Tot.iteT (decide_eq_true (by omega)) ?_;refine Tot.bindIdx i rfl hi (Tot.bindIdx i rfl hi ?_);have:V4 l[i] d=some (decide (l[i].fPrefix∈S)):=by unfold V4;rw [h]
  refine Tot.bindOf this ?_;refine Tot.ite (fun e=>Tot.stop (.inr ⟨i,hi,rfl,of_decide_eq_true e,hI⟩)) (fun e=>Tot.step () (D6 hi (by omega)) fun j hj hji => ?_)
  by_cases hji':j=i
  ·subst hji';exact of_decide_eq_false e
  ·exact hI j hj (by omega)
 ·unfold M2;refine Tot.iteF (decide_eq_false (by omega)) ?_;refine Tot.last (.inl ⟨rfl,fun c hc => ?_⟩);obtain⟨j,hj,rfl⟩:=List.getElem_of_mem hc;exact hI j hj hj
 ·rcases hx with ⟨rfl,h⟩ | ⟨i,hi,rfl,h⟩
  ·exact Tot.some (.inl ⟨rfl,h⟩)
  ·exact Tot.some (.inr ⟨i,hi,rfl,h⟩)
theorem B5t {S:List A1} {l:List A2} (h:∀ c∈l,c.fPrefix∉S):keepF S l=l:=by
 unfold keepF;rw [List.filter_eq_self];intro c hc;simp [h c hc]
theorem B8g {d:List (A1×Bool)} {S:List A1} (h:DM d S) {l:List A2} (hn:l.length≤100000):S5 l d=some (keepF S l):=by
 refine Tot.eq ?_;unfold S5;refine Tot.bindT (firstdel h hn) fun r hr => ?_;rcases hr with ⟨rfl,hr⟩ | ⟨i,hi,rfl,hr1,hr2⟩
 ·refine Tot.iteT rfl (Tot.some ?_);rw [B5t hr]
 ·refine Tot.iteF (by simp) ?_;have hw:=D6 hi (n:=l.length) (by omega);have hti:keepF S (l.take i)=l.take i:=B5t fun c hc=>by
   rw [List.mem_take_iff_getElem] at hc;obtain⟨j,hj,rfl⟩:=hc;exact hr2 j (by omega) (by omega)
  refine Tot.bindLoop (fun s:Int×Int×List A2=>∃ w j:Nat,s.1=w∧s.2.1=j∧w<j∧j≤l.length∧s.2.2.length=l.length∧s.2.2.take w=keepF S (l.take j)∧s.2.2.drop j=l.drop j) (fun s=>((l.length:Int)-s.2.1).toNat) (fun x:Int×List A2=>∃ w:Nat,x.1=w∧w≤l.length∧x.2.length=l.length∧x.2.take w=keepF S l) ⟨i,i+1,rfl,hw,by omega,hi,rfl,?_,rfl⟩ (fun s hs => ?_) (fun x hx => ?_)
  ·rw [G2 hi,A6o,if_pos hr1,hti]
  ·obtain⟨s1,s2,xs⟩:=s;obtain⟨w,j,e1,e2,h3,h4,h5,h6,h7⟩:=hs;simp only at e1 e2 h5 h6 h7;subst e1;subst e2;unfold S4;refine Tot.ite (fun e => ?_) (fun e => ?_)
   ·have hj:j<xs.length:=by have:=of_decide_eq_true e;simp only at this;omega
    have hjl:j<l.length:=by omega
    have hx:xs[j]=l[j]:=by
     have h8:=List.drop_eq_getElem_cons hj;have h9:=List.drop_eq_getElem_cons hjl;rw [h7,h9] at h8;injection h8 with h8 _;exact h8.symm
    have hd:xs.drop (j+1)=l.drop (j+1):=by
     have h8:=congrArg (List.drop 1) h7;rwa [List.drop_drop,List.drop_drop] at h8
    have hw2:=D6 hjl (n:=l.length) (by omega);refine Tot.bindIdx j rfl hj (Tot.bindIdx j rfl hj ?_);have:V4 xs[j] d=some (decide (xs[j].fPrefix∈S)):=by unfold V4;rw [h]
    refine Tot.bindOf this ?_;refine Tot.jnR (fun m=>∃ w':Nat,m.1=w'∧w'<j+1∧m.2.length=l.length∧m.2.take w'=keepF S (l.take (j+1))∧m.2.drop (j+1)=l.drop (j+1)) (fun jj hjj => ?_) (fun m hm => ?_)
    ·refine Tot.ite (fun e' => ?_) (fun e' => ?_)
     ·have hnot:l[j].fPrefix∉S:=by rw [← hx];simpa using e'
      refine Tot.bindIdx w rfl (show w<xs.length by omega) (Tot.bindIdx w rfl (show w<xs.length by omega) ?_);refine hjj _ ⟨w+1,D6 (n:=l.length) (by omega) (by omega),by omega,by simpa using h5,?_,?_⟩
      ·have hwn:((w:Nat):Int).toNat=w:=by omega
       simp only [hwn];rw [G2 (by rw [List.length_set];omega),List.getElem_set_self,List.take_set_of_le (Nat.le_refl _),h6,G2 hjl,A6o,if_neg hnot,hx]
      ·have hwn:((w:Nat):Int).toNat=w:=by omega
       simp only [hwn];rw [List.drop_set_of_lt (by omega)];exact hd
     ·have hin:l[j].fPrefix∈S:=by rw [← hx];simpa using e'
      refine hjj _ ⟨w,rfl,by omega,h5,?_,hd⟩;simp only;rw [h6,G2 hjl,A6o,if_pos hin]
    ·obtain⟨w',g1,g2,g3,g4,g5⟩:=hm;refine Tot.next ⟨w',j+1,g1,hw2,g2,hjl,g3,g4,g5⟩ ?_;simp only;rw [hw2];omega
   ·have hj:¬ j<xs.length:=by have:=of_decide_eq_false e;simp only at this;omega
    refine Tot.out ⟨w,rfl,by omega,h5,?_⟩;have hjl:j=l.length:=by omega
    subst hjl;rw [List.take_of_length_le (Nat.le_refl _)] at h6;exact h6
  ·obtain⟨x1,xs⟩:=x;obtain⟨w,e1,h2,h3,h4⟩:=hx;simp only at e1 h3 h4;subst e1;have hwn:((w:Nat):Int).toNat=w:=by omega
   refine Tot.chk (by simp;omega) (Tot.chk (decide_eq_true (by show((w:Nat):Int).toNat+(xs.length-((w:Nat):Int).toNat)≤xs.length;omega)) (Tot.chk (by simp;omega) (Tot.some ?_)));simp only [hwn];rw [List.drop_zero,List.append_assoc,List.take_append_of_le_length (by simp;omega),List.take_take,Nat.min_self];exact h4
-- sending
def bk' (b:F4) (i:Nat):F4:=F4.mk (b.fLevel-i) b.fRate b.fBurst
theorem B7k {us:List A7} {i:Nat} (h:i<us.length):SP (us.take (i+1))=SP (us.take i)++nm us[i]:=by
 unfold SP;rw [G2 h,List.flatMap_append];simp
theorem B5u {b:F4} {i:Nat} (h0:0≤b.fLevel∧b.fLevel≤1000) (hi:(i:Int)≤b.fLevel):A50 (bk' b i)=some (if (i:Int)<b.fLevel then (bk' b (i+1),true) else (bk' b i,false)):=by
 unfold A50;have e1:(bk' b i).fLevel=b.fLevel-i:=rfl
 by_cases h:(i:Int)<b.fLevel
 ·have e2:decide ((bk' b i).fLevel≤0)=false:=decide_eq_false (by rw [e1];omega);rw [if_pos h,e2,e1,G3 (by omega) (by omega)];unfold bk';simp only;rw [show b.fLevel-(i:Int)-1=b.fLevel-((i+1:Nat):Int) by omega];rfl
 ·have e2:decide ((bk' b i).fLevel≤0)=true:=decide_eq_true (by rw [e1];omega);rw [if_neg h,e2];rfl
def cut31 (b:F4) (us:List A7):Nat:=min b.fLevel.toNat us.length
theorem sends {us:List A7} {e:Int} {b:F4} (h0:0≤b.fLevel∧b.fLevel≤1000) (hl:us.length≤4000000) (hu:∀ u∈us,u.fWithdraw.length≤100000∧u.fAnnounce.length≤100000) :
  Tot (loop (A32 (us,e)) ((0:Int),([]:List (A1×Bool)),([]:List A7),b)) (fun x=>DM x.1 (SP (us.take (cut31 b us)))∧x.2=(us.take (cut31 b us),bk' b (cut31 b us))):=by
 have hb0:b=bk' b 0:=by cases b;simp [bk']
 refine Tot.loop (fun s:Int×List (A1×Bool)×List A7×F4=>∃ i:Nat,s.1=i∧i≤us.length∧(i:Int)≤b.fLevel∧DM s.2.1 (SP (us.take i))∧s.2.2.1=us.take i∧s.2.2.2=bk' b i) (fun s=>((us.length:Int)-s.1).toNat) _ (fun s hs => ?_) ⟨0,rfl,Nat.zero_le _,h0.1,by simpa [SP] using DM.nil,by simp,hb0⟩;obtain⟨s1,d,sent,b'⟩:=s;obtain⟨i,e1,h2,h3,h4,h5,h6⟩:=hs;simp only at e1 h4 h5 h6;subst e1;subst h5;subst h6;have fin:(cut31 b us=i)→Tot (some (Sum.inl (d,us.take i,bk' b i):(List (A1×Bool)×List A7×F4)⊕(Int×List (A1×Bool)×List A7×F4))) (Rnd (fun s:Int×List (A1×Bool)×List A7×F4=>∃ i:Nat,s.1=i∧i≤us.length∧(i:Int)≤b.fLevel∧DM s.2.1 (SP (us.take i))∧s.2.2.1=us.take i∧s.2.2.2=bk' b i) (fun s=>((us.length:Int)-s.1).toNat) (fun x=>DM x.1 (SP (us.take (cut31 b us)))∧x.2=(us.take (cut31 b us),bk' b (cut31 b us))) ((i:Int),d,us.take i,bk' b i)):=fun hc=>Tot.out (by rw [hc];exact⟨h4,rfl⟩);unfold A32;refine Tot.ite (fun e => ?_) (fun e => ?_)
 ·have hi:i<us.length:=by have:=of_decide_eq_true e;simp only at this;omega
  refine Tot.bindIdx i rfl hi ?_;refine Tot.bindOf (B5u h0 h3) ?_
  by_cases hlt:(i:Int)<b.fLevel
  ·rw [if_pos hlt];obtain⟨u1,u2⟩:=hu _ (List.getElem_mem hi);refine Tot.iteF rfl ?_;refine Tot.chk (limB (by simp;omega)) ?_;have hcl:A30 us[i].fWithdraw=some us[i].fWithdraw:=by
    unfold A30;simp [chk,show us[i].fWithdraw.length≤LIM from(by show _≤4294967296;omega)]
   refine Tot.bindOf hcl ?_;refine Tot.chk (limB (by simp;omega)) ?_;refine Tot.bindT (P':=fun d'=>DM d' (SP (us.take i)++nm us[i])) ?_ fun d' hd' => ?_
   ·refine Tot.rng (β:=List (A1×Bool)) (nm us[i]).length (fun k d=>((k:Int),d)) (fun k d=>DM d (SP (us.take i)++(nm us[i]).take k)) _ d rfl (by simpa using h4) (fun k d hk hI => ?_) (fun d hI => ?_)
    ·unfold A31;have hk':k<(us[i].fWithdraw++us[i].fAnnounce).length:=hk;refine Tot.iteT (decide_eq_true (show(k:Int)<((us[i].fWithdraw++us[i].fAnnounce).length:Int) by omega)) ?_;refine Tot.bindIdx k rfl hk' (Tot.bindIdx k rfl hk' ?_);have hnl:(nm us[i]).length≤200000:=by simp [nm];omega
     refine Tot.step _ (by rw [D6 hk (by omega)]) ?_;rw [G2 hk,← List.append_assoc];exact hI.put _
    ·unfold A31;refine Tot.iteF (decide_eq_false (show ¬ ((nm us[i]).length:Int)<((us[i].fWithdraw++us[i].fAnnounce).length:Int) by simp [nm])) ?_;rw [List.take_of_length_le (Nat.le_refl _)] at hI;exact Tot.last hI
   ·have hw:=D6 hi (n:=us.length) (by omega);refine Tot.next ⟨i+1,hw,hi,by omega,by rw [B7k hi];exact hd',by rw [G2 hi],rfl⟩ ?_;simp only;rw [hw];omega
  ·rw [if_neg hlt];refine Tot.iteT rfl (fin ?_);unfold cut31;omega
 ·have hi:¬ i<us.length:=by have:=of_decide_eq_false e;simp only at this;omega
  refine fin ?_;unfold cut31;omega
theorem min64 (n:Nat):(minI (n:Int) 64).toNat=min n 64∧0≤minI (n:Int) 64:=by
 unfold minI;split<;>omega
theorem take64 {α:Type} (l:List α):(l.take (min l.length 64)).drop 0=l.take 64:=by
 rw [List.drop_zero]
 by_cases h:l.length≤64
 ·rw [Nat.min_eq_left h,List.take_of_length_le (Nat.le_refl _),List.take_of_length_le h]
 ·rw [Nat.min_eq_right (by omega)]
theorem A9i (p q:A1):cmpP p q<0↔pLt p q:=A9d p q
theorem B6n {l:List A2} (h:∀ c∈l,rt c) (hn:(pf l).Nodup) (hl:l.length≤64):Tot (I0 l) (fun r=>r.Perm l∧Chx r):=by
 have aR':∀ c∈l,aR c.fPrefix.fAddr:=fun c hc=>(h c hc).val.addr.1;unfold I0;obtain⟨r,e,h1,h2⟩:=B3i (xs:=l) (cmp:=fun x y=>A23 x y) (fun x y=>cmpP x.fPrefix y.fPrefix) (fun x hx y hy=>by unfold A23;exact J7 (B76 (aR' x hx) (aR' y hy)) rfl) (fun x _=>by rw [A9i];exact B48 _)
  (fun x hx y hy z hz h3 h4=>by
   rw [A9i] at *;exact A6a (aR' x hx) (aR' y hy) (aR' z hz) h3 h4)
  (fun x hx y hy z hz h3 h4 h5=>by
   rw [A9i] at *
   by_cases h6:pLt y.fPrefix x.fPrefix
   ·exact h4 (A6a (aR' y hy) (aR' x hx) (aR' z hz) h6 h5)
   ·rw [B1b (aR' x hx) (aR' y hy) h3 h6] at h5;exact h4 h5) (by omega)
 refine Tot.of e ⟨h1,fun c hc=>h c (h1.mem_iff.1 hc),?_,by rw [h1.length_eq];omega⟩;have hnr:(pf r).Nodup:=(h1.map _).nodup_iff.2 hn;have hp:r.Pairwise fun a b=>pLt a.fPrefix b.fPrefix:=by
  rw [List.pairwise_iff_getElem] at h2 ⊢;intro i j hi hj hij;have:=h2 i j hi hj hij;rw [A9i] at this;refine Classical.byContradiction fun hn => ?_;have e':=B1b (aR' _ (h1.mem_iff.1 (List.getElem_mem hi))) (aR' _ (h1.mem_iff.1 (List.getElem_mem hj))) hn this;have h3:(pf r)[i]'(by simpa [pf] using hi)=(pf r)[j]'(by simpa [pf] using hj):=by simpa [pf] using e'
  have:=(List.getElem_inj hnr).1 h3;omega
 unfold asc;rw [List.pairwise_map];exact hp
theorem B7l {l:List A2} (h:(pf l).Nodup) (n:Nat):(pf (l.take n)).Nodup:=by
 unfold pf at *;rw [List.map_take];exact h.sublist (List.take_sublist _ _)
def SendR (q:E6) (r:List A2) (y:E6×List A7×Int):Prop :=
 y=(E6.mk (keepF (SP ((packF r).take (cut31 q.fBucket (packF r)))) q.fPending) (bk' q.fBucket (cut31 q.fBucket (packF r))),(packF r).take (cut31 q.fBucket (packF r)),0)
theorem B7m {r:List A2} (h:Chs r):∀ u∈packF r,u.fWithdraw.length≤100000∧u.fAnnounce.length≤100000:=fun u hu=>by
 have:=B9n h u hu;exact this.2
theorem B5v {k:Nat} {q:E6} (h:QOk k q):Tot (A4l q) (fun y=>∃ r,r.Perm (q.fPending.take 64)∧Chx r∧SendR q r y):=by
 have hlen:=h.len;have hk:=h.k20;have hl0:=h.l0;have hb0:=h.b0;unfold A4l;refine Tot.bindOf (qvalid h) (Tot.iteF rfl ?_);obtain⟨m1,m2⟩:=min64 q.fPending.length;refine Tot.chk (by rw [m1];simp;omega) ?_;rw [m1,take64];have ht:∀ c∈q.fPending.take 64,rt c:=fun c hc=>h.all c (List.mem_of_mem_take hc);have htl:(q.fPending.take 64).length≤64:=by simp;omega
 refine Tot.bindOf (A8s ht (by omega)) ?_;refine Tot.bindT (B6n ht (B7l h.nod 64) htl) fun r hr => ?_;obtain⟨r1,r2⟩:=hr;have hrl:=r1.length_eq;refine Tot.chk (by rw [hrl];simp) ?_;rw [List.drop_zero,← hrl,List.take_of_length_le (Nat.le_refl _)];refine Tot.bindOf (B7d r2.chs) ?_;refine Tot.iteF rfl ?_;refine Tot.bindOf (A8s h.all (by omega)) ?_;refine Tot.bindT (sends (by omega) (Nat.le_trans (A9x r2.chs) (by decide)) (B7m r2.chs)) fun x hx => ?_;obtain⟨x1,x2⟩:=hx;refine Tot.bindOf (B8g x1 (by omega)) (Tot.some ⟨r,r1,r2,?_⟩);unfold SendR;rw [x2]
theorem QOk.send {k:Nat} {q:E6} (h:QOk k q) {r:List A2} {y:E6×List A7×Int} (hy:SendR q r y):QOk k y.1:=by
 have hl0:=h.l0;have hlen:=h.len;unfold SendR at hy;rw [hy];have hc:(cut31 q.fBucket (packF r):Int)≤q.fBucket.fLevel:=by unfold cut31;omega
 refine⟨h.b0,h.r0,?_,fun c hc=>h.all c (List.mem_filter.1 hc).1,?_,Nat.le_trans (B3r _ _) h.len,h.k20⟩
 ·show 0≤q.fBucket.fLevel-_∧q.fBucket.fLevel-_≤q.fBucket.fBurst;omega
 ·exact h.nod.sublist (List.Sublist.map _ List.filter_sublist)
theorem B9v {k:Nat} {q:E6} (h:QOk k q):A68 q=some (E6.mk q.fPending (F4.mk (min (q.fBucket.fLevel+q.fBucket.fRate) q.fBucket.fBurst) q.fBucket.fRate q.fBucket.fBurst)):=by
 have hlen:=h.len;have hk:=h.k20;have h1:=h.b0;have h2:=h.r0;have h3:=h.l0;unfold A68;refine J7 (A9y h.all (by omega)) ?_;unfold A6k;rw [G3 (by omega) (by omega)];have:∀ a b:Int,minI a b=min a b:=fun a b=>by unfold minI;split<;>omega
 rw [this];rfl
theorem QOk.tick {k:Nat} {q:E6} (h:QOk k q):QOk k (E6.mk q.fPending (F4.mk (min (q.fBucket.fLevel+q.fBucket.fRate) q.fBucket.fBurst) q.fBucket.fRate q.fBucket.fBurst)):=by
 have h1:=h.b0;have h2:=h.r0;have h3:=h.l0;refine⟨h1,h2,?_,h.all,h.nod,h.len,h.k20⟩;show 0≤min _ _∧min _ _≤q.fBucket.fBurst;omega
theorem B7n (p q:A1):0<cmpP p q↔pLt q p:=by
 unfold cmpP;split
 ·rename_i h;constructor
  ·intro e;omega
  ·intro e;exact absurd e (B2h h)
 ·split
  ·rename_i h;simp [h]
  ·rename_i h;simp [h]
theorem B8h {l:List A2} (h:∀ c∈l,rt c) (hn:(pf l).Nodup) (hl:l.length≤64):Tot (loop (U6 l) ((0:Int),([]:List A2))) (fun r=>Chx r):=by
 refine Tot.rng (β:=List A2) l.length (fun i out=>((i:Int),out)) (fun i out=>asc (pf out)∧out.length=i∧∀ c∈out,c∈l.take i) _ [] rfl ⟨List.Pairwise.nil,rfl,(fun c hc=>by cases hc)⟩ (fun i out hi hI => ?_) (fun out hI => ?_)
 ·obtain⟨h1,h2,h3⟩:=hI;have hall:∀ c∈out,rt c:=fun c hc=>h c (List.mem_of_mem_take (h3 c hc));have hgc:=h _ (List.getElem_mem hi);have hR:∀ q∈pf out,aR q.fAddr:=fun q hq=>by
   obtain⟨c,hc,rfl⟩:=List.mem_map.1 hq;exact(hall c hc).val.addr.1
  have hnot:l[i].fPrefix∉pf out:=fun hm=>by
   obtain⟨c,hc,e⟩:=List.mem_map.1 hm;have h5:=B2u hn (i:=i) (by simpa [pf] using hi);rw [A7u] at h5;refine h5 ?_;have h6:=h3 c hc;unfold pf;rw [← List.map_take];exact List.mem_map.2 ⟨c,h6,e⟩
  unfold U6;refine Tot.iteT (decide_eq_true (show(i:Int)<(l.length:Int) by omega)) ?_;refine Tot.bindIdx i rfl hi ?_;generalize hx:l[i]=x at hgc hnot;have hpo:(pf out).length=out.length:=by simp [pf]
  refine Tot.bindLoop (fun s:Int=>∃ t:Nat,s=t∧t≤out.length∧∀ (j:Nat) (hj:j<out.length),t≤j→pLt x.fPrefix out[j].fPrefix) (fun s=>s.toNat) (fun s:Int=>∃ t:Nat,s=t∧t≤out.length∧(∀ (j:Nat) (hj:j<out.length),t≤j→pLt x.fPrefix out[j].fPrefix)∧∀ (h0:0<t) (h':t-1<out.length),¬ pLt x.fPrefix out[t-1].fPrefix) ⟨out.length,rfl,Nat.le_refl _,fun j hj h=>absurd h (by omega)⟩ (fun s hs => ?_) (fun s hs => ?_)
  ·obtain⟨t,rfl,h4,h5⟩:=hs;unfold A2g;refine Tot.jnR (fun m=>(m=true→0<t∧∀ h':t-1<out.length,pLt x.fPrefix out[t-1].fPrefix)∧(m=false→∀ (h0:0<t) (h':t-1<out.length),¬ pLt x.fPrefix out[t-1].fPrefix)) (fun j hj => ?_) (fun m hm => ?_)
   ·refine Tot.ite (fun e => ?_) (fun e => ?_)
    ·have ht:0<t:=by have:=of_decide_eq_true e;omega
     obtain⟨u,rfl⟩:∃ u,t=u+1:=⟨t-1,by omega⟩;have hw:=A3o (k:=u) (n:=out.length) (by omega) (by omega);refine Tot.bindIdx u hw (show u<out.length by omega) (Tot.bindIdx u hw (show u<out.length by omega) ?_);refine Tot.bindOf (B2g (hall _ (List.getElem_mem (by omega))).val.addr.1 hgc.val.addr.1) ?_;refine hj _ ⟨fun e=>⟨ht,fun _ => ?_⟩,fun e _ _ => ?_⟩
     ·exact(B7n _ _).1 (of_decide_eq_true e)
     ·intro hlt;exact absurd ((B7n _ _).2 hlt) (of_decide_eq_false e)
    ·have ht:¬ 0<t:=by have:=of_decide_eq_false e;omega
     exact hj _ ⟨(fun e=>by cases e),fun _ h0=>absurd h0 ht⟩
   ·refine Tot.ite (fun e => ?_) (fun e => ?_)
    ·obtain⟨h0,hlt⟩:=hm.1 e;obtain⟨u,rfl⟩:∃ u,t=u+1:=⟨t-1,by omega⟩;have hw:=A3o (k:=u) (n:=out.length) (by omega) (by omega);refine Tot.next ⟨u,hw,by omega,fun j hj huj => ?_⟩ (by rw [hw];omega)
     by_cases hju:j=u
     ·subst hju;exact hlt hj
     ·exact h5 j hj (by omega)
    ·exact Tot.out ⟨t,rfl,h4,h5,hm.2 e⟩
  ·obtain⟨t,rfl,h4,h5,h6⟩:=hs;have htn:((t:Nat):Int).toNat=t:=by omega
   refine Tot.chk (by simp;omega) (Tot.chk (decide_eq_true (by show((t:Nat):Int).toNat+(out.length-((t:Nat):Int).toNat)≤out.length;omega)) (Tot.chk (limB (by simp;omega)) (Tot.chk (by simp;omega) (Tot.chk (limB (by simp;omega)) (Tot.chk (limB (by simp;omega)) ?_)))));simp only [htn];have hd:(out.drop t).take (out.length-t)=out.drop t:=List.take_of_length_le (by simp);rw [hd];refine Tot.step (out.take t++[x]++out.drop t) (by rw [D6 hi (by omega)]) ⟨?_,by simp;omega,fun c hc => ?_⟩
   ·have:=B7e (l:=pf out) (p:=x.fPrefix) hR hgc.val.addr.1 h1 (k:=t) (by omega) (fun j hj hjt => ?_) (fun hlt => ?_)
    ·simpa [pf,List.map_take,List.map_drop] using this
    ·have h0:0<t:=by omega
     have hu:t-1<out.length:=by omega
     have h7:=h6 h0 hu;have hRu:=(hall _ (List.getElem_mem hu)).val.addr.1;have h8:pLt out[t-1].fPrefix x.fPrefix:=Classical.byContradiction fun hn'=>hnot (by
      rw [B1b hgc.val.addr.1 hRu h7 hn'];exact List.mem_map.2 ⟨_,List.getElem_mem hu,rfl⟩)
     rw [A7u]
     by_cases hj1:j=t-1
     ·subst hj1;exact h8
     ·have h9:=List.pairwise_iff_getElem.1 h1 j (t-1) hj (by omega) (by omega);rw [A7u,A7u] at h9;exact A6a (hall _ (List.getElem_mem (by omega))).val.addr.1 hRu hgc.val.addr.1 h9 h8
    ·rw [A7u];have h7:=h5 t (by omega) (Nat.le_refl _);exact⟨B2h h7,fun e=>B48 x.fPrefix (by rw [e] at h7;exact h7)⟩
   ·rw [G2 hi,hx];rcases List.mem_append.1 hc with hc | hc
    ·rcases List.mem_append.1 hc with hc | hc
     ·exact List.mem_append_left _ (h3 c (List.mem_of_mem_take hc))
     ·exact List.mem_append_right _ hc
    ·exact List.mem_append_left _ (h3 c (List.mem_of_mem_drop hc))
 ·unfold U6;refine Tot.iteF (decide_eq_false (show ¬ (l.length:Int)<(l.length:Int) by omega)) ?_;obtain⟨h1,h2,h3⟩:=hI;exact Tot.last ⟨fun c hc=>h c (List.mem_of_mem_take (h3 c hc)),h1,(show out.length≤1000 by omega)⟩
theorem rsends {us:List A7} {e:Int} {b:F4} (h0:0≤b.fLevel∧b.fLevel≤1000) (hl:us.length≤4000000) (hu:∀ u∈us,u.fWithdraw.length≤100000∧u.fAnnounce.length≤100000) :
  Tot (loop (A0k (us,e)) ((0:Int),([]:List (A1×Bool)),([]:List A7),b)) (fun x=>DM x.1 (SP (us.take (cut31 b us)))∧x.2=(us.take (cut31 b us),bk' b (cut31 b us))):=by
 have hb0:b=bk' b 0:=by cases b;simp [bk']
 refine Tot.loop (fun s:Int×List (A1×Bool)×List A7×F4=>∃ i:Nat,s.1=i∧i≤us.length∧(i:Int)≤b.fLevel∧DM s.2.1 (SP (us.take i))∧s.2.2.1=us.take i∧s.2.2.2=bk' b i) (fun s=>((us.length:Int)-s.1).toNat) _ (fun s hs => ?_) ⟨0,rfl,Nat.zero_le _,h0.1,by simpa [SP] using DM.nil,by simp,hb0⟩;obtain⟨s1,d,sent,b'⟩:=s;obtain⟨i,e1,h2,h3,h4,h5,h6⟩:=hs;simp only at e1 h4 h5 h6;subst e1;subst h5;subst h6;have fin:(cut31 b us=i)→Tot (some (Sum.inl (d,us.take i,bk' b i):(List (A1×Bool)×List A7×F4)⊕(Int×List (A1×Bool)×List A7×F4))) (Rnd (fun s:Int×List (A1×Bool)×List A7×F4=>∃ i:Nat,s.1=i∧i≤us.length∧(i:Int)≤b.fLevel∧DM s.2.1 (SP (us.take i))∧s.2.2.1=us.take i∧s.2.2.2=bk' b i) (fun s=>((us.length:Int)-s.1).toNat) (fun x=>DM x.1 (SP (us.take (cut31 b us)))∧x.2=(us.take (cut31 b us),bk' b (cut31 b us))) ((i:Int),d,us.take i,bk' b i)):=fun hc=>Tot.out (by rw [hc];exact⟨h4,rfl⟩);unfold A0k;refine Tot.ite (fun e => ?_) (fun e => ?_)
 ·have hi:i<us.length:=by have:=of_decide_eq_true e;simp only at this;omega
  refine Tot.bindIdx i rfl hi ?_;refine Tot.bindOf (show A5b (bk' b i)=_ from B5u h0 h3) ?_
  by_cases hlt:(i:Int)<b.fLevel
  ·rw [if_pos hlt];obtain⟨u1,u2⟩:=hu _ (List.getElem_mem hi);refine Tot.iteF rfl ?_;refine Tot.chk (limB (by simp;omega)) (Tot.chk (limB (show us[i].fWithdraw.length≤_ by omega)) (Tot.chk (limB (by simp;omega)) ?_));refine Tot.bindT (P':=fun d'=>DM d' (SP (us.take i)++nm us[i])) ?_ fun d' hd' => ?_
   ·refine Tot.rng (β:=List (A1×Bool)) (nm us[i]).length (fun k d=>((k:Int),d)) (fun k d=>DM d (SP (us.take i)++(nm us[i]).take k)) _ d rfl (by simpa using h4) (fun k d hk hI => ?_) (fun d hI => ?_)
    ·unfold A0j;have hk':k<(us[i].fWithdraw++us[i].fAnnounce).length:=hk;refine Tot.iteT (decide_eq_true (show(k:Int)<((us[i].fWithdraw++us[i].fAnnounce).length:Int) by omega)) ?_;refine Tot.bindIdx k rfl hk' (Tot.bindIdx k rfl hk' ?_);have hnl:(nm us[i]).length≤200000:=by simp [nm];omega
     refine Tot.step _ (by rw [D6 hk (by omega)]) ?_;rw [G2 hk,← List.append_assoc];exact hI.put _
    ·unfold A0j;refine Tot.iteF (decide_eq_false (show ¬ ((nm us[i]).length:Int)<((us[i].fWithdraw++us[i].fAnnounce).length:Int) by simp [nm])) ?_;rw [List.take_of_length_le (Nat.le_refl _)] at hI;exact Tot.last hI
   ·have hw:=D6 hi (n:=us.length) (by omega);refine Tot.next ⟨i+1,hw,hi,by omega,by rw [B7k hi];exact hd',by rw [G2 hi],rfl⟩ ?_;simp only;rw [hw];omega
  ·rw [if_neg hlt];refine Tot.iteT rfl (fin ?_);unfold cut31;omega
 ·have hi:¬ i<us.length:=by have:=of_decide_eq_false e;simp only at this;omega
  refine fin ?_;unfold cut31;omega
theorem B8i {d:List (A1×Bool)} {S:List A1} (h:DM d S) {l:List A2} (hn:l.length≤100000) {z:List A7×F4}:Tot (loop (U7 (d,z) l) ((0:Int),([]:List A2))) (fun r=>r=keepF S l):=by
 refine Tot.rng (β:=Unit) l.length (fun i _=>((i:Int),keepF S (l.take i))) (fun _ _=>True) _ () (by simp [keepF]) trivial (fun i _ hi _ => ?_) (fun _ _ => ?_)
 ·have hkl:=B3r S (l.take i);unfold U7;refine Tot.iteT (decide_eq_true (show(i:Int)<(l.length:Int) by omega)) ?_;refine Tot.bindIdx i rfl hi ?_;refine Tot.jnR (fun m=>m=keepF S (l.take (i+1))) (fun j hj => ?_) (fun m hm=>Tot.step () (by rw [D6 hi (by omega),hm]) trivial);have hs:keepF S (l.take (i+1))=if l[i].fPrefix∈S then keepF S (l.take i) else keepF S (l.take i)++[l[i]]:=by rw [G2 hi,A6o]
  by_cases hm:l[i].fPrefix∈S
  ·refine Tot.iteF (by rw [h];simp [hm]) (hj _ ?_);rw [hs,if_pos hm]
  ·refine Tot.iteT (by rw [h];simp [hm]) (Tot.chk (limB (by simp at hkl ⊢;omega)) (hj _ ?_));rw [hs,if_neg hm]
 ·unfold U7;refine Tot.iteF (decide_eq_false (show ¬ (l.length:Int)<(l.length:Int) by omega)) ?_;refine Tot.last ?_;rw [List.take_of_length_le (Nat.le_refl _)]
theorem B8j {k:Nat} {q:E6} (h:QOk k q):Tot (A3w q) (fun y=>∃ r,SendR q r y):=by
 have hlen:=h.len;have hk:=h.k20;have hl0:=h.l0;have hb0:=h.b0;unfold A3w;refine Tot.bindOf (rvalidq h) (Tot.iteF rfl ?_);obtain⟨m1,m2⟩:=min64 q.fPending.length;refine Tot.chk (by rw [m1];simp;omega) ?_;rw [m1,take64];have ht:∀ c∈q.fPending.take 64,rt c:=fun c hc=>h.all c (List.mem_of_mem_take hc);have htl:(q.fPending.take 64).length≤64:=by simp;omega
 refine Tot.bindOf (A86 ht (by omega)) ?_;refine Tot.bindT (B8h ht (B7l h.nod 64) htl) fun r r2 => ?_;refine Tot.bindOf (B9l r2.chs) ?_;refine Tot.iteF rfl ?_;refine Tot.bindT (rsends (by omega) (Nat.le_trans (A9x r2.chs) (by decide)) (B7m r2.chs)) fun x hx => ?_;obtain⟨x1,x2⟩:=hx;refine Tot.bindOf (A86 h.all (by omega)) ?_;obtain⟨xd,xr⟩:=x;refine Tot.bindT (B8i x1 (by omega)) fun o ho=>Tot.some ⟨r,?_⟩;unfold SendR;simp only at x2;rw [x2,ho]
-- the decks' queues
theorem QOk.up {k k':Nat} {q:E6} (h:QOk k q) (hk:k≤k') (h20:k'≤20):QOk k' q:=⟨h.b0,h.r0,h.l0,h.all,h.nod,Nat.le_trans h.len (Nat.mul_le_mul_left _ hk),h20⟩
theorem B8k (d:B1) (hd:DeckOk d):Tot (A2h d) (fun r=>QOk 3 r.1∧DeckOk r.2):=by
 unfold A2h;refine Tot.bindT (A41 d hd 4 (by omega) (by omega)) fun x1 h1 => ?_;have e1:w64 (1+x1.1)=1+x1.1:=G3 (by omega) (by omega);have e2:w64 (1+x1.1+1)=1+x1.1+1:=G3 (by omega) (by omega);rw [e1,e2];refine Tot.bindT (A41 x1.2 h1.2.2 _ (by omega) (by omega)) fun x2 h2 => ?_;refine Tot.bindT (A41 x2.2 h2.2.2 _ (by omega) (by omega)) fun x3 h3 => ?_;refine Tot.bindT (A41 x3.2 h3.2.2 4 (by omega) (by omega)) fun x4 h4 => ?_;obtain⟨n,hn,hn4⟩:∃ n:Nat,x4.1=n∧n≤3:=⟨x4.1.toNat,by omega,by omega⟩;rw [hn];have q0:QOk 0 (E6.mk [] (F4.mk x2.1 x3.1 (1+x1.1))):=by
  refine⟨?_,?_,?_,(fun c hc=>by cases hc),List.nodup_nil,Nat.le_refl _,by omega⟩
  ·show 1≤1+x1.1∧1+x1.1≤1000;omega
  ·show 0≤x3.1∧x3.1≤1+x1.1;omega
  ·show 0≤x2.1∧x2.1≤1+x1.1;omega
 refine Tot.bindLoop (fun s:Int×E6×B1=>∃ i:Nat,s.1=i∧i≤3∧QOk (3-i) s.2.1∧DeckOk s.2.2) (fun s=>s.1.toNat) (fun p:B1×E6=>QOk 3 p.2∧DeckOk p.1) ⟨n,rfl,hn4,q0.up (by omega) (by omega),h4.2.2⟩ (fun s hs => ?_) (fun p hp=>Tot.some hp);obtain⟨s1,q,d⟩:=s;obtain⟨i,e,hi,hq,hd⟩:=hs;simp only at e hq hd;subst e;unfold A1m;refine Tot.ite (fun e => ?_) (fun e=>Tot.out ⟨hq.up (by omega) (by omega),hd⟩);have hi0:0<i:=by have:=of_decide_eq_true e;simp only at this;omega
 obtain⟨u,rfl⟩:∃ u,i=u+1:=⟨i-1,by omega⟩;refine Tot.bindT (B0i d hd 5) fun r hr => ?_;obtain⟨⟨hc,hcl,_⟩,hd'⟩:=hr;refine Tot.bindOf (B9u hq hc.all (by omega)) ?_;have hq2:=hq.push (by omega) hc.all (a:=r.1) (by omega);rw [show 3-(u+1)+1=3-u by omega] at hq2;refine Tot.jnR (fun m=>QOk (3-u) m) (fun j hj=>Tot.iteT rfl (hj _ hq2)) (fun m hm => ?_);refine Tot.bindT (A41 r.2 hd' 3 (by omega) (by omega)) fun x hx => ?_;refine Tot.jnR (fun m=>QOk (3-u) m) (fun j hj => ?_) (fun m hm => ?_)
 ·refine Tot.ite (fun _=>Tot.bindT (B8j hm) fun y hy => ?_) (fun _=>hj _ hm);obtain⟨r',hy⟩:=hy;exact hj _ (hm.send hy)
 ·have hw:=A3o (k:=u) (n:=3) (by omega) (by omega);refine Tot.next ⟨u,hw,by omega,hm,hx.2.2⟩ ?_;simp only;rw [hw];omega
-- sending all
theorem B9w (l:List A2):SP (packF l)=UP l:=by
 unfold SP packF UP;rw [List.flatMap_append,B3q];congr 1
 ·rw [B2t uW nm id (fun c=>by simp [nm,uW]),B0j,List.map_id]
 ·congr 1;funext a;rw [B2t (uAa a) nm id (fun c=>by simp [nm,uAa]),B0j,List.map_id]
theorem B6o {r:List A2} (h:Chs r) {u:A7} (hu:u∈packF r):J9 u=some true:=by
 rcases B8f h hu with ⟨c,rfl,hv,h0⟩ | ⟨n,x,m,c,hd,rfl,hv,h0⟩
 ·have hl:=hv.len;rw [B5j (l:=c) (fun p hp=>(hv.val p hp).addr.1) (by omega),B2o.2 hv]
 ·have hl:=hv.len;rw [B2q hd (l:=c) (fun p hp=>(hv.val p hp).addr.1) (by omega) h0,B2p.2 hv]
theorem B5w {q:E6} {r:List A2} (h1:r.Perm (q.fPending.take 64)) (hl:q.fPending.length≤64):keepF (SP (packF r)) q.fPending=[]:=by
 rw [List.take_of_length_le hl] at h1;unfold keepF;rw [List.filter_eq_nil_iff];intro c hc;have:c.fPrefix∈SP (packF r):=by
  rw [B9w,C1b];exact List.mem_map.2 ⟨c,h1.mem_iff.2 hc,rfl⟩
 simp [this]
def c8:A2:=A2.mk 0 (A1.mk zA 8) false zR
theorem C1k:rt c8:=⟨⟨⟨⟨by decide,by decide⟩,.inr (by decide)⟩,by decide,by decide,by decide⟩,fun _=>rfl,(fun e=>by cases e)⟩
theorem awake31:A33=some true:=by
 refine Tot.eq ?_;unfold A33;have q0:QOk 0 (E6.mk [] (F4.mk 1 0 1)):=⟨by decide,by decide,by decide,(fun c hc=>by cases hc),List.nodup_nil,Nat.le_refl _,by omega⟩;have hall:∀ c∈[c8],rt c:=fun c hc=>by rw [List.mem_singleton.1 hc];exact C1k
 have hp:pushF [] [c8]=[c8]:=rfl;have h1:=B7j q0 hall (by simp);rw [hp] at h1;have h2:=q0.push (by omega) hall (by simp);rw [hp] at h2;refine Tot.bindOf h1 ?_;refine Tot.bindT (B5v h2) fun y hy => ?_;obtain⟨r,r1,r2,hy⟩:=hy;have hr:r=[c8]:=List.perm_singleton.1 r1;have hpk:packF [c8]=[uW [c8.fPrefix]]:=by
  have e1:goneL [c8]=[c8.fPrefix]:=rfl;have e2:FO [c8]=[]:=by simp [FO,foS,c8]
  unfold packF;rw [e1,e2];simp [chunks,ck]
 have hcut:cut31 (F4.mk 1 0 1) [uW [c8.fPrefix]]=1:=rfl;unfold SendR at hy;rw [hr,hpk,hcut] at hy;have hkeep:keepF (SP ([uW [c8.fPrefix]].take 1)) [c8]=[]:=by
  have:=B5w (q:=E6.mk [c8] (F4.mk 1 0 1)) (r:=[c8]) (List.Perm.refl _) (by simp);rw [hpk] at this;exact this
 rw [hkeep] at hy;subst hy;refine Tot.jn (Tot.iteT rfl ?_);refine Tot.bindOf (show A4m _=some true from rfl) (Tot.iteT rfl ?_);refine Tot.bindOf (show A4m _=some false from rfl) (Tot.some ?_);rfl
theorem B6p (a0:List Int) (h0:(∀ y∈a0,I64 y)∧a0.length≤maxLen) (a1:Int) {p1:Prop} (_:p1):A01 a0 a1=some true:=by
 refine Tot.eq ?_;unfold A01;refine Tot.bindOf (show Q4 a0=some ⟨a0,0⟩ from rfl) ?_;refine Tot.bindT (B8k _ (C1a a0 h0.2)) fun r2 hr2 => ?_;obtain⟨hq0,hd0⟩:=hr2;refine Tot.bindOf (B9m a1 9 (by omega) (by omega)) ?_;have g1:=Int.emod_nonneg a1 (show(9:Int)≠0 by omega);have g2:=Int.emod_lt_of_pos a1 (show(0:Int)<9 by omega);obtain⟨T,hT,hT9⟩:∃ T:Nat,a1 % 9=T∧T≤8:=⟨(a1 % 9).toNat,by omega,by omega⟩;rw [hT];have eT:w64 ((T:Int)+1)=((T+1:Nat):Int):=by rw [G3 (by omega) (by omega)];rfl
 have hb:=hq0.b0;have hrr:=hq0.r0;have hll:=hq0.l0;generalize hburst:r2.1.fBucket.fBurst=burst at hb hrr hll;generalize hrate:r2.1.fBucket.fRate=rate at hrr;refine Tot.bindRng (β:=Int×E6×B1) (T+1) (fun i b=>(b.1,(i:Int),b.2.1,b.2.2)) (fun i b=>QOk (3+i) b.2.1∧DeckOk b.2.2∧b.2.1.fBucket.fBurst=burst∧b.2.1.fBucket.fRate=rate∧0≤b.1∧b.1+b.2.1.fBucket.fLevel≤burst+i*rate∧(0<i→b.1≤burst+(i-1)*rate)) (fun x=>∃ n:Int,x = .inr n∧0≤n∧n≤burst+T*rate) (0,r2.1,r2.2) rfl ⟨hq0,hd0,hburst,hrate,Int.le_refl _,by simp;omega,fun h=>absurd h (by omega)⟩ (fun i b hi hI => ?_) (fun b hI => ?_) (fun x hx => ?_)
 ·obtain⟨n,q,d⟩:=b;obtain⟨hq,hd,hbu,hra,hn0,hnl,_⟩:=hI;simp only at hq hd hbu hra hn0 hnl;unfold N6;rw [eT];refine Tot.iteT (decide_eq_true (show(i:Int)<((T+1:Nat):Int) by omega)) ?_;refine Tot.bindT (B0i d hd 5) fun r hr => ?_;obtain⟨⟨hc,hcl,_⟩,hd'⟩:=hr;refine Tot.bindOf (B7j hq hc.all (by omega)) (Tot.iteF rfl ?_);have hq2:=hq.push (by omega) hc.all (a:=r.1) (by omega);generalize hx:E6.mk (pushF q.fPending r.1) q.fBucket=x at hq2 ⊢;have hxb:x.fBucket=q.fBucket:=by rw [← hx]
  refine Tot.bindT (B5v hq2) fun y hy => ?_;obtain⟨s,s1,s2,hy⟩:=hy;have hq3:=hq2.send hy;have hxl:=hq2.l0;have hcutl:(cut31 x.fBucket (packF s):Int)≤x.fBucket.fLevel:=by unfold cut31;omega
  have hul:y.2.1.length=cut31 x.fBucket (packF s):=by
   rw [hy];simp only [List.length_take];unfold cut31;omega
  have hyl:y.1.fBucket.fLevel=x.fBucket.fLevel-cut31 x.fBucket (packF s):=by rw [hy];rfl
  have hye:y.2.2=0:=by rw [hy]
  have hyb:y.1.fBucket.fBurst=q.fBucket.fBurst∧y.1.fBucket.fRate=q.fBucket.fRate:=by rw [hy,← hxb];exact⟨rfl,rfl⟩
  refine Tot.jnR (fun m=>m=false) (fun j hj => ?_) (fun m hm => ?_)
  ·refine Tot.iteF ?_ (hj _ ?_)
   ·rw [Bool.or_eq_false_iff];refine⟨by rw [hye];rfl,?_⟩;rw [hul,hyl];have hb2:=hq2.b0;rw [show w64 (x.fBucket.fLevel-(cut31 x.fBucket (packF s):Int))=x.fBucket.fLevel-(cut31 x.fBucket (packF s):Int) from G3 (by omega) (by omega)];simp
   ·cases hz:(decide ((0:Int)<y.1.fBucket.fLevel)&&decide ((x.fPending.length:Int)≤64)) with
    | false=>rfl
    | true =>
     rw [Bool.and_eq_true,decide_eq_true_eq,decide_eq_true_eq] at hz;have hc2:cut31 x.fBucket (packF s)=(packF s).length:=by unfold cut31 at hyl ⊢;omega
     have:y.1.fPending=[]:=by
      rw [hy];simp only;rw [hc2,List.take_of_length_le (Nat.le_refl _)];exact B5w s1 (by omega)
     rw [this];rfl
  ·subst hm;refine Tot.iteF rfl ?_;refine Tot.bindT (P':=fun x=>x = .inr ()) ?_ fun z hz => ?_
   ·have hpl:=A9x s2.chs;have hyn:y.2.1.length≤4000000:=by
     rw [hul];unfold cut31;omega
    refine Tot.rng (β:=Unit) y.2.1.length (fun i _=>(i:Int)) (fun _ _=>True) _ () rfl trivial (fun i _ hi _ => ?_) (fun _ _ => ?_)
    ·unfold N5;refine Tot.iteT (decide_eq_true (by omega)) ?_;refine Tot.bindIdx i rfl hi ?_;have hmem:y.2.1[i]∈packF s:=by
      have e:y.2.1=(packF s).take (cut31 x.fBucket (packF s)):=by rw [hy]
      have:∀ u∈y.2.1,u∈packF s:=by rw [e];exact fun u hu=>List.mem_of_mem_take hu
      exact this _ (List.getElem_mem hi)
     refine Tot.bindOf (B6o s2.chs hmem) (Tot.iteF rfl ?_);exact Tot.step () (D6 hi (by omega)) trivial
    ·unfold N5;refine Tot.iteF (decide_eq_false (by omega)) ?_;exact Tot.last rfl
   ·subst hz;refine Tot.bindOf (B9v hq3) ?_;have hy0:=hq3.l0;have hyr:=hq3.r0;have hT':(i:Int)*rate≤8*1000:=by
     have h1:(i:Int)*rate≤8*rate:=Int.mul_le_mul_of_nonneg_right (by omega) (by omega);omega
    have hi0:0≤(i:Int)*rate:=Int.mul_nonneg (by omega) (by omega);have hlv:y.1.fBucket.fLevel+y.2.1.length=q.fBucket.fLevel:=by rw [hul,hyl,hxb];omega
    refine Tot.step (n+y.2.1.length,_,r.2) ?_ ⟨hq3.tick,hd',by show y.1.fBucket.fBurst=burst;rw [hyb.1];exact hbu,by show y.1.fBucket.fRate=rate;rw [hyb.2];exact hra,by omega,?_,fun _ => ?_⟩
    ·rw [G3 (by omega) (by omega),D6 hi (by omega)]
    ·show n+(y.2.1.length:Int)+min (y.1.fBucket.fLevel+y.1.fBucket.fRate) y.1.fBucket.fBurst≤burst+((i+1:Nat):Int)*rate;have e3:((i+1:Nat):Int)*rate=i*rate+rate:=by rw [Int.natCast_add,Int.add_mul];simp
     rw [e3];have:=hyb.2;omega
    ·show n+(y.2.1.length:Int)≤burst+(((i+1:Nat):Int)-1)*rate;rw [show((i+1:Nat):Int)-1=i by omega];omega
 ·obtain⟨n,q,d⟩:=b;obtain⟨hq,hd,hbu,hra,hn0,hnl,hlast⟩:=hI;simp only at hn0 hlast;unfold N6;rw [eT];refine Tot.iteF (decide_eq_false (show ¬ ((T+1:Nat):Int)<((T+1:Nat):Int) by omega)) ?_;have:=hlast (by omega);rw [show((T+1:Nat):Int)-1=T by omega] at this;exact Tot.last ⟨n,rfl,hn0,this⟩
 ·obtain⟨n,rfl,hn0,hn⟩:=hx;have h1:(T:Int)*rate≤8*rate:=Int.mul_le_mul_of_nonneg_right (by omega) (by omega);have h2:0≤(T:Int)*rate:=Int.mul_nonneg (by omega) (by omega);refine Tot.jn (Tot.iteT ?_ ?_)
  ·rw [eT,show((T+1:Nat):Int)-1=T by omega,G3 (n:=(T:Int)) (by omega) (by omega),G3 (n:=(T:Int)*rate) (by omega) (by omega),G3 (by omega) (by omega)];exact decide_eq_true hn
  ·exact Tot.bindOf awake31 (Tot.some rfl)
end Go.Proofs.YtplbaenjbihekaaGreatDoor
