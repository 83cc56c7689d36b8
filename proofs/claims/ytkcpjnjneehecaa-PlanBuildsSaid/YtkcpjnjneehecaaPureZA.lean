/- Fabrics, distances and ways, in plain Lean. -/
import Derived.Test.YtkcpjnjneehecaaFns
import Derived.Test.YtkcpjnjneehecaaVcX
import Derived.Test.YtkcpjnjneehecaaVcO
namespace Go.Proofs.Ytkcpjnjneehecaa
open Go Go.Vc
abbrev I64 (x:Int):Prop:=IntKind.i64.min≤x∧x≤IntKind.i64.max
theorem mod_eq (a m:Int) (hm:0<m) (hb:m≤4611686018427387904):exchangepointmill_Mod a m=some (a % m):=by
 obtain⟨h0,h1⟩:=emod_lt' a hm
 unfold exchangepointmill_Mod
 refine chk_of (by simp;omega) ?_
 unfold jn
 rcases tmod_emod a hm with h | ⟨h,hn⟩
 ·rw [h]
  exact ite_of_f (by simp;omega) rfl
 ·rw [h]
  refine ite_of_t (by simp;omega) ?_
  rw [show a % m-m+m=a % m from by omega,w64_id (by omega) (by omega)]
def DeckOk (d:exchangepointmill_Deck):Prop:=0≤d.fAt∧d.fAt≤d.fL.length∧d.fL.length≤9223372036854775807
theorem next_tot (d:exchangepointmill_Deck) (hd:DeckOk d) (n:Int) (hn:0<n) (hn':n≤4611686018427387904):Tot (exchangepointmill_Deck_Next d n) (fun x=>0≤x.1∧x.1<n∧DeckOk x.2):=by
 obtain⟨h0,h1,h2⟩:=hd
 unfold exchangepointmill_Deck_Next
 refine Tot.ite (fun h => ?_) (fun h => ?_)
 ·exact Tot.some ⟨Int.le_refl _,hn,h0,h1,h2⟩
 ·obtain⟨k,hk⟩:∃ k:Nat,d.fAt=k:=⟨d.fAt.toNat,by omega⟩
  have hlt:k<d.fL.length:=by simp at h;omega
  obtain⟨m0,m1⟩:=emod_lt' d.fL[k] hn
  rw [w64_id (n:=d.fAt+1) (by omega) (by omega),w64_id (n:=d.fAt+1-1) (by omega) (by omega)]
  refine Tot.bindIdx k (by omega) hlt (Tot.bindOf (mod_eq _ n hn hn') (Tot.some ⟨m0,m1,?_⟩))
  exact⟨by simp only;omega,by simp only;omega,h2⟩
theorem new_ok (l:List Int) (hl:l.length≤9223372036854775807):DeckOk ⟨l,0⟩:=⟨Int.le_refl _,by simp only;omega,hl⟩
structure LV (n:Int) (l:aLink):Prop where
 a:0≤l.fA∧l.fA<n
 b:0≤l.fB∧l.fB<n
 ne:l.fA≠l.fB
 c:1≤l.fCapacity∧l.fCapacity≤1048576
structure FV (f:aFabric):Prop where
 s:1≤f.fSwitches∧f.fSwitches≤8
 l:f.fLinks.length≤24
 dn:f.fDown.length=f.fLinks.length
 dd:(f.fDead.length:Int)=f.fSwitches
 lk:∀ x∈f.fLinks,LV f.fSwitches x
def al (f:aFabric) (s:Int):Bool:=decide (0≤s)&&(match f.fDead[s.toNat]? with | some b => !b | none=>false)
def wk (f:aFabric) (i:Nat):Bool:=match f.fLinks[i]?,f.fDown[i]? with
 | some l,some d => !d&&(al f l.fA&&al f l.fB)
 | _,_=>false
theorem al_in {f:aFabric} {s:Int} (h:al f s=true):0≤s∧s<f.fDead.length:=by
 unfold al at h
 have:=Bool.and_eq_true_iff.1 h
 refine⟨of_decide_eq_true this.1,?_⟩
 have h2:=this.2
 have h0:=of_decide_eq_true this.1
 cases e:f.fDead[s.toNat]? with
 | none=>rw [e] at h2;cases h2
 | some b=>have:=(List.getElem?_eq_some_iff.1 e).1;omega
theorem alive_eq (f:aFabric) (s:Int):fabric_alive f s=some (al f s):=by
 unfold fabric_alive jn al;dsimp only
 by_cases h:0≤s∧s<f.fDead.length
 ·have hl:s.toNat<f.fDead.length:=by omega
  rw [if_pos (by simp;omega)]
  refine Tot.eq (Tot.bindIdx s.toNat (by omega) hl (Tot.some ?_))
  rw [List.getElem?_eq_getElem hl,decide_eq_true h.1];rfl
 ·rw [if_neg (by simp;omega)]
  by_cases h0:0≤s
  ·rw [List.getElem?_eq_none (by omega)];simp
  ·rw [decide_eq_false h0];rfl
theorem dead_eq (f:aFabric) (s:Int):xref13_Dead f s=some (!al f s):=by
 unfold xref13_Dead jn al;dsimp only
 by_cases h:0≤s∧s<f.fDead.length
 ·have hl:s.toNat<f.fDead.length:=by omega
  rw [if_neg (by simp;omega)]
  refine Tot.eq (Tot.bindIdx s.toNat (by omega) hl (Tot.some ?_))
  rw [List.getElem?_eq_getElem hl,decide_eq_true h.1];simp
 ·rw [if_pos (by simp;omega)]
  by_cases h0:0≤s
  ·rw [List.getElem?_eq_none (by omega)];simp
  ·rw [decide_eq_false h0];rfl
theorem works_eq {f:aFabric} (hf:FV f) {i:Nat} (hi:i<f.fLinks.length):fabric_Works f (i:Int)=some (wk f i):=by
 have hd:i<f.fDown.length:=by rw [hf.dn];exact hi
 unfold fabric_Works jn wk;dsimp only
 rw [if_neg (by simp;omega),List.getElem?_eq_getElem hi,List.getElem?_eq_getElem hd]
 refine Tot.eq (Tot.bindIdx i rfl hd (Tot.ite (fun h=>Tot.some ?_) (fun h=>Tot.bindIdx i rfl hi (Tot.bindOf (alive_eq ..) (Tot.ite (fun h2=>Tot.bindIdx i rfl hi (Tot.bindOf (alive_eq ..) (Tot.some ?_))) (fun h2=>Tot.some ?_))))))
 ·simp only [h];rfl
 ·simp only [h,h2];simp
 ·simp only [h,h2];rfl
theorem rworks_eq {f:aFabric} (hf:FV f) {i:Nat} (hi:i<f.fLinks.length):xref13_Works f (i:Int)=some (wk f i):=by
 have hd:i<f.fDown.length:=by rw [hf.dn];exact hi
 unfold xref13_Works jn wk;dsimp only
 rw [if_neg (by simp;omega),List.getElem?_eq_getElem hi,List.getElem?_eq_getElem hd]
 refine Tot.eq (Tot.bindIdx i rfl hd (Tot.ite (fun h=>Tot.some ?_) (fun h=>Tot.bindIdx i rfl hi (Tot.bindOf (dead_eq ..) (Tot.ite (fun h2=>Tot.bindOf (dead_eq ..) (Tot.some ?_)) (fun h2=>Tot.some ?_))))))
 ·simp only [h];rfl
 ·rw [Bool.not_not] at h2;simp only [h,h2];simp
 ·rw [Bool.not_not] at h2;simp only [h,h2];rfl
def Ed (f:aFabric) (a b:Int):Prop:=∃ i l,f.fLinks[i]? = some l∧wk f i=true∧((l.fA=a∧l.fB=b)∨(l.fB=a∧l.fA=b))
theorem Ed.symm {f:aFabric} {a b:Int}:Ed f a b→Ed f b a
 | ⟨i,l,h1,h2,h3⟩=>⟨i,l,h1,h2,h3.elim (fun h => .inr ⟨h.2,h.1⟩) (fun h => .inl ⟨h.2,h.1⟩)⟩
theorem wk_al {f:aFabric} {i:Nat} {l:aLink} (h:wk f i=true) (hl:f.fLinks[i]? = some l):al f l.fA=true∧al f l.fB=true:=by
 unfold wk at h
 rw [hl] at h
 cases e:f.fDown[i]? with
 | none=>rw [e] at h;cases h
 | some d =>
  rw [e] at h
  have:=Bool.and_eq_true_iff.1 h
  exact Bool.and_eq_true_iff.1 this.2
theorem Ed.al {f:aFabric} {a b:Int}:Ed f a b→al f a=true∧al f b=true
 | ⟨_,_,h1,h2,h3⟩=>h3.elim (fun h=>by have:=wk_al h2 h1;rw [h.1,h.2] at this;exact this) (fun h=>by have:=wk_al h2 h1;rw [h.1,h.2] at this;exact this.symm)
def gt (D:List Int) (a:Int):Int:=D.getD a.toNat (-1)
theorem gt_get {D:List Int} {k:Nat} (h:k<D.length):gt D (k:Int)=D[k]:=by
 unfold gt;rw [List.getD_eq_getElem?_getD,Int.toNat_natCast,List.getElem?_eq_getElem h];rfl
theorem gt_set {D:List Int} {a b v:Int} (ha:0≤a∧a<D.length) (hb:0≤b):gt (D.set a.toNat v) b=if b=a then v else gt D b:=by
 unfold gt
 simp only [List.getD_eq_getElem?_getD]
 by_cases e:b=a
 ·subst e;rw [if_pos rfl,List.getElem?_set_self (by omega)];rfl
 ·rw [if_neg e,List.getElem?_set_ne (by omega)]
theorem gt_idx {D:List Int} {a:Int} (h:0≤a∧a<D.length):idx D a=some (gt D a) :=
 Tot.eq (Tot.idx a.toNat (by omega) (by omega) (by rw [← gt_get (by omega),Int.toNat_of_nonneg h.1]))
theorem bindGt {α:Type} {P:α→Prop} {D:List Int} {a:Int} {k:Int→Option α} (h:0≤a∧a<D.length) (hk:Tot (k (gt D a)) P):Tot ((idx D a).bind k) P:=Tot.bindOf (gt_idx h) hk
theorem gt_ext {D D':List Int} {n:Int} (h:(D.length:Int)=n) (h':(D'.length:Int)=n) (e:∀ a,0≤a→a<n→gt D a=gt D' a):D=D':=by
 refine List.ext_getElem (by omega) fun i h1 h2 => ?_
 have:=e i (by omega) (by omega)
 rwa [gt_get h1,gt_get h2] at this
structure Dst (f:aFabric) (to:Int) (D:List Int):Prop where
 len:(D.length:Int)=f.fSwitches
 lo:∀ a,0≤a→a<f.fSwitches → -1≤gt D a
 z:gt D to=0
 z':∀ a,0≤a→a<f.fSwitches→gt D a=0→a=to
 nb:∀ a b,Ed f a b→0≤gt D a→0≤gt D b∧gt D b≤gt D a+1
 pd:∀ a,0≤a→a<f.fSwitches→0<gt D a→∃ b,Ed f a b∧gt D b=gt D a-1
theorem Ed.rng {f:aFabric} (hf:FV f) {a b:Int} (h:Ed f a b):(0≤a∧a<f.fSwitches)∧(0≤b∧b<f.fSwitches):=by
 have h1:=al_in h.al.1
 have h2:=al_in h.al.2
 rw [hf.dd] at h1 h2
 exact⟨h1,h2⟩
theorem Dst.le {f:aFabric} (hf:FV f) {to:Int} {D D':List Int} (h:Dst f to D) (h':Dst f to D'):∀ (n:Nat) (a:Int),0≤a→a<f.fSwitches→gt D a=n→0≤gt D' a∧gt D' a≤n
 | 0,a,h0,h1,e=>by have:=h.z' a h0 h1 e;subst this;rw [h'.z];exact⟨Int.le_refl _,Int.le_refl _⟩
 | n+1,a,h0,h1,e=>by
  obtain⟨b,hb,eb⟩:=h.pd a h0 h1 (by omega)
  have hr:=(hb.rng hf).2
  have:=Dst.le hf h h' n b hr.1 hr.2 (by omega)
  have:=h'.nb b a hb.symm this.1
  omega
theorem Dst.uniq {f:aFabric} (hf:FV f) {to:Int} {D D':List Int} (h:Dst f to D) (h':Dst f to D'):D=D':=by
 refine gt_ext h.len h'.len fun a h0 h1 => ?_
 have l1:=h.lo a h0 h1
 have l2:=h'.lo a h0 h1
 by_cases e:0≤gt D a
 ·have g:=Dst.le hf h h' (gt D a).toNat a h0 h1 (by omega)
  have g':=Dst.le hf h' h (gt D' a).toNat a h0 h1 (by omega)
  omega
 ·by_cases e':0≤gt D' a
  ·have g':=Dst.le hf h' h (gt D' a).toNat a h0 h1 (by omega)
   omega
  ·omega
def un (D:List Int):Nat:=D.countP fun x=>decide (x<0)
theorem un_set {D:List Int} {a v:Int} (ha:0≤a∧a<D.length) (hn:gt D a<0) (hv:0≤v):un (D.set a.toNat v)+1=un D:=by
 have hl:a.toNat<D.length:=by omega
 have hg:D[a.toNat]<0:=by rw [← gt_get hl,Int.toNat_of_nonneg ha.1];exact hn
 unfold un
 rw [List.countP_set hl]
 have:0<D.countP fun x=>decide (x<0):=List.countP_pos_iff.2 ⟨_,List.getElem_mem hl,decide_eq_true hg⟩
 rw [if_pos (by simpa using hg),if_neg (by simp;omega)]
 omega
structure QI (f:aFabric) (to q:Int) (M:Nat) (Q D:List Int):Prop where
 len:(D.length:Int)=f.fSwitches
 lo:∀ a,0≤a→a<f.fSwitches → -1≤gt D a
 z:gt D to=0
 z':∀ a,0≤a→a<f.fSwitches→gt D a=0→a=to
 pd:∀ a,0≤a→a<f.fSwitches→0<gt D a→∃ b,Ed f a b∧gt D b=gt D a-1
 hd:Q.head? = some q
 qs:∀ x∈Q,(0≤x∧x<f.fSwitches)∧0≤gt D x
 top:∀ a,0≤a→a<f.fSwitches→gt D a≤gt D q+1
 srt:Q.Pairwise fun x y=>gt D x≤gt D y
 dn:∀ a,0≤a→a<f.fSwitches→0≤gt D a→a∉Q→∀ b,Ed f a b→0≤gt D b∧gt D b≤gt D a+1
 mu:Q.length+un D=M
theorem QI.push {f:aFabric} (hf:FV f) {to q:Int} {M:Nat} {Q D:List Int} (h:QI f to q M Q D) {x:Int} (hx:Ed f q x) (hu:gt D x<0):QI f to q M (Q++[x]) (D.set x.toNat (gt D q+1)):=by
 have hqm:q∈Q:=List.mem_of_mem_head? h.hd
 obtain⟨hq,hq0⟩:=h.qs q hqm
 have hxr:=(hx.rng hf).2
 have hxl:0≤x∧x<D.length:=by rw [h.len];exact hxr
 have g:∀ b,0≤b→gt (D.set x.toNat (gt D q+1)) b=if b=x then gt D q+1 else gt D b:=fun b hb=>gt_set hxl hb
 have hqx:q≠x:=fun e=>by rw [e] at hq0;omega
 have old:∀ b,0≤b→0≤gt D b→gt (D.set x.toNat (gt D q+1)) b=gt D b:=fun b hb h0=>by
  rw [g b hb,if_neg (fun e=>by rw [e] at h0;omega)]
 have hto:0≤to∧to<f.fSwitches∨True:=.inr trivial
 refine⟨by rw [List.length_set];exact h.len,fun a h0 h1 => ?_,?_,fun a h0 h1 e => ?_,fun a h0 h1 hp => ?_,?_,fun y hy => ?_,fun a h0 h1 => ?_,?_,fun a h0 h1 hl hn b hb => ?_,?_⟩
 ·rw [g a h0];split
  ·omega
  ·exact h.lo a h0 h1
 ·by_cases ht:0≤to
  ·rw [old to ht (by rw [h.z];exact Int.le_refl _),h.z]
  ·have hz:=h.z
   have e:gt D to=gt D 0:=by unfold gt;rw [show to.toNat=(0:Int).toNat from by omega]
   have e':∀ L,gt L to=gt L 0:=fun L=>by unfold gt;rw [show to.toNat=(0:Int).toNat from by omega]
   rw [e',old 0 (Int.le_refl _) (by rw [← e,hz];exact Int.le_refl _),← e,hz]
 ·rw [g a h0] at e
  split at e
  ·omega
  ·exact h.z' a h0 h1 e
 ·rw [g a h0] at hp ⊢
  split at hp
  ·rename_i e
   subst e
   rw [if_pos rfl]
   exact⟨q,hx.symm,by rw [old q hq.1 hq0];omega⟩
  ·rename_i e
   rw [if_neg e]
   obtain⟨b,hb,eb⟩:=h.pd a h0 h1 hp
   exact⟨b,hb,by rw [old b (hb.rng hf).2.1 (by omega)];exact eb⟩
 ·rw [List.head?_append,h.hd];rfl
 ·rcases List.mem_append.1 hy with hy | hy
  ·obtain⟨r,p⟩:=h.qs y hy
   exact⟨r,by rw [old y r.1 p];exact p⟩
  ·have:=List.mem_singleton.1 hy
   subst this
   exact⟨hxr,by rw [g _ hxr.1,if_pos rfl];omega⟩
 ·rw [old q hq.1 hq0,g a h0]
  split
  ·exact Int.le_refl _
  ·exact h.top a h0 h1
 ·refine List.pairwise_append.2 ⟨h.srt.imp_of_mem fun {a b} ha hb r => ?_,List.pairwise_singleton ..,fun a ha b hb => ?_⟩
  ·obtain⟨ra,pa⟩:=h.qs a ha
   obtain⟨rb,pb⟩:=h.qs b hb
   rw [old a ra.1 pa,old b rb.1 pb];exact r
  ·have:=List.mem_singleton.1 hb
   subst this
   obtain⟨ra,pa⟩:=h.qs a ha
   rw [old a ra.1 pa,g _ hxr.1,if_pos rfl]
   exact h.top a ra.1 ra.2
 ·have hn':a∉Q∧a≠x:=by
   refine⟨fun k=>hn (List.mem_append_left _ k),fun k=>hn (List.mem_append_right _ (by rw [k];exact List.mem_singleton_self _))⟩
  have hl':0≤gt D a:=by rw [g a h0,if_neg hn'.2] at hl;exact hl
  obtain⟨p1,p2⟩:=h.dn a h0 h1 hl' hn'.1 b hb
  rw [old a h0 hl',old b (hb.rng hf).2.1 p1]
  exact⟨p1,p2⟩
 ·have:=un_set hxl hu (v:=gt D q+1) (by omega)
  have:=h.mu
  rw [List.length_append,List.length_singleton]
  omega
theorem wN {k:Nat} (h:k≤4000000000):w64 ((k:Int)+1)=((k+1:Nat):Int):=by rw [w64_id (by omega) (by omega)];rfl
theorem mm {f:aFabric} (hf:FV f):maxI (0:Int) (minI f.fSwitches (f.fDead.length:Int))=f.fSwitches:=by
 have:=hf.s;have:=hf.dd
 unfold maxI minI
 split<;>split<;>omega
def Prog (f:aFabric) (q:Int) (k:Nat) (D:List Int):Prop:=∀ i,i<k→∀ l,f.fLinks[i]? = some l→wk f i=true→(l.fA=q→0≤gt D l.fB)∧(l.fB=q→0≤gt D l.fA)
theorem QI.closed {f:aFabric} {to q:Int} {M:Nat} {Q D:List Int} (h:QI f to q M Q D) (hp:Prog f q f.fLinks.length D):∀ b,Ed f q b→0≤gt D b
 | b,⟨i,l,h1,h2,h3⟩=>by
  have:=hp i (List.getElem?_eq_some_iff.1 h1).1 l h1 h2
  rcases h3 with h3 | h3
  ·rw [← h3.2];exact this.1 h3.1
  ·rw [← h3.2];exact this.2 h3.1
theorem QI.pop {f:aFabric} (hf:FV f) {to q:Int} {M:Nat} {Q D:List Int} (h:QI f to q M Q D) (hc:∀ b,Ed f q b→0≤gt D b) :
  (Q.drop 1=[]∧Dst f to D)∨∃ q' M',QI f to q' M' (Q.drop 1) D:=by
 have nbq:∀ b,Ed f q b→0≤gt D b∧gt D b≤gt D q+1:=fun b hb=>⟨hc b hb,h.top b (hb.rng hf).2.1 (hb.rng hf).2.2⟩
 match Q,h with
 | [],h=>cases h.hd
 | x :: R,h =>
  have hx:x=q:=by have:=h.hd;simpa using this
  subst hx
  match R,h with
  | [],h =>
   refine .inl ⟨rfl,h.len,h.lo,h.z,h.z',fun a b hb h0 => ?_,h.pd⟩
   by_cases e:a=x
   ·subst e;exact nbq b hb
   ·exact h.dn a (hb.rng hf).1.1 (hb.rng hf).1.2 h0 (by simpa using e) b hb
  | y :: R,h =>
   refine .inr ⟨y,(y :: R).length+un D,h.len,h.lo,h.z,h.z',h.pd,rfl,fun z hz=>h.qs z (List.mem_cons_of_mem _ hz),fun a h0 h1 => ?_,(List.pairwise_cons.1 h.srt).2,fun a h0 h1 hl hn b hb => ?_,rfl⟩
   ·have:=h.top a h0 h1
    have:=(List.pairwise_cons.1 h.srt).1 y (List.mem_cons_self ..)
    omega
   ·by_cases e:a=x
    ·subst e;exact nbq b hb
    ·exact h.dn a h0 h1 hl (fun k=>by
      rcases List.mem_cons.1 k with k | k
      ·exact e k
      ·exact hn k) b hb
theorem l3_tot {f:aFabric} (hf:FV f) {to q:Int} {M:Nat} {Q D:List Int} (h:QI f to q M Q D) (hM:M≤1000) {i:Nat} {l:aLink} (hl:f.fLinks[i]? = some l) (hw:wk f i=true) :
  Tot (loop (fabric_reach_L3 l) ((0:Int),Q,D)) (fun x=>QI f to q M x.1 x.2∧(∀ a,0≤gt D a→0≤gt x.2 a)∧(l.fA=q→0≤gt x.2 l.fB)∧(l.fB=q→0≤gt x.2 l.fA)):=by
 have e1:Ed f l.fA l.fB:=⟨i,l,hl,hw,.inl ⟨rfl,rfl⟩⟩
 refine Tot.rng 2 (fun k (b:List Int×List Int)=>(((k:Nat):Int),b.1,b.2)) (fun k b=>QI f to q M b.1 b.2∧(∀ a,0≤gt D a→0≤gt b.2 a)∧(1≤k→l.fA=q→0≤gt b.2 l.fB)∧(2≤k→l.fB=q→0≤gt b.2 l.fA))
  _ (Q,D) rfl ⟨h,fun _ x=>x,fun x=>absurd x (by decide),fun x=>absurd x (by decide)⟩ (fun k b hk hb => ?_) (fun b hb => ?_)
 ·obtain⟨hb1,hb2,hb3,hb4⟩:=hb
  obtain⟨x0,x1,hx,hE,hk2⟩:∃ x0 x1,([([l.fA,l.fB]:List Int),([l.fB,l.fA]:List Int)]:List (List Int))[k]=[x0,x1]∧Ed f x0 x1∧((k=0∧x0=l.fA∧x1=l.fB)∨(k=1∧x0=l.fB∧x1=l.fA)):=by
   match k,hk with
   | 0,_=>exact⟨_,_,rfl,e1,.inl ⟨rfl,rfl,rfl⟩⟩
   | 1,_=>exact⟨_,_,rfl,e1.symm,.inr ⟨rfl,rfl,rfl⟩⟩
  have hr:=hE.rng hf
  have hlen:=hb1.len
  have hQ:0<b.1.length:=by
   have:=hb1.hd
   match e:b.1,this with
   | x :: R,_=>simp
  have hq0:b.1[0]=q:=by
   have:=hb1.hd
   rw [List.head?_eq_getElem?,List.getElem?_eq_getElem hQ] at this
   exact Option.some.inj this
  unfold fabric_reach_L3
  refine Tot.iteT (decide_eq_true (by simp only;omega)) (Tot.bindIdx k rfl hk ?_)
  rw [hx]
  refine Tot.jnR (fun m:Bool=>m=true↔(x0=q∧gt b.2 x1<0)) (fun j hj=>Tot.chk rfl (Tot.bindIdx 0 rfl (by simp) (Tot.bindIdx 0 rfl hQ (Tot.bindIdx 0 rfl hQ (Tot.ite (fun h1=>Tot.chk rfl (Tot.bindIdx 1 rfl (by simp) (Tot.ite (fun h2=>Tot.chk rfl (Tot.bindIdx 1 rfl (by simp) (bindGt ⟨hr.2.1,by rw [hlen];exact hr.2.2⟩ (bindGt ⟨hr.2.1,by rw [hlen];exact hr.2.2⟩ (hj _ ?_))))) (fun h2 => ?_)))) (fun h1=>hj _ ?_)))))) (fun m hm=>Tot.jnR (fun m:List Int×List Int=>QI f to q M m.1 m.2∧(∀ a,0≤gt b.2 a→0≤gt m.2 a)∧(x0=q→0≤gt m.2 x1)) (fun j hj=>Tot.ite (fun h1 => ?_) (fun h1=>hj _ ⟨hb1,fun _ x=>x,fun e => ?_⟩)) (fun m hm=>Tot.step m (by rw [wN (by omega)]) ?_))
  ·have:x0=q:=by rw [← hq0];exact eq_of_beq h1
   simp [this]
  ·exfalso
   have:¬ x1<b.2.length:=of_decide_eq_false h2
   rw [hlen] at this
   exact this hr.2.2
  ·have:x0≠q:=by rw [← hq0];intro e;rw [show([x0,x1]:List Int)[0]=x0 from rfl,e] at h1;simp at h1
   simp [this]
  ·obtain⟨eq0,hu⟩:=hm.1 h1
   have hqr:0≤x0∧x0<b.2.length:=by rw [hlen];exact hr.1
   have hxr:0≤x1∧x1<b.2.length:=by rw [hlen];exact hr.2
   have hqg:=(hb1.qs q (List.mem_of_mem_head? hb1.hd)).2
   have hqt:gt b.2 q<1000000:=by
    have h8:=hf.s
    have:=hb1.top
    -- labels are small: the chain down
    exact Int.lt_of_le_of_lt (show gt b.2 q≤1000 from by
     exact Classical.byContradiction fun hc=>by
      have key:∀ (n:Nat) (a:Int),0≤a→a<f.fSwitches→gt b.2 a=n→∀ m:Nat,m≤n→(m:Int)∈b.2:=by
       intro n
       induction n with
       | zero =>
        intro a h0 h1 e m hm;have:m=0:=by omega
        subst this;rw [← e];have hl:a.toNat<b.2.length:=by omega
        have:=gt_get hl;rw [Int.toNat_of_nonneg h0] at this;rw [this];exact List.getElem_mem hl
       | succ n ih =>
        intro a h0 h1 e m hm
        by_cases em:m=n+1
        ·subst em;rw [← e];have hl:a.toNat<b.2.length:=by omega
         have:=gt_get hl;rw [Int.toNat_of_nonneg h0] at this;rw [this];exact List.getElem_mem hl
        ·obtain⟨c,hc,ec⟩:=hb1.pd a h0 h1 (by omega)
         exact ih c (hc.rng hf).2.1 (hc.rng hf).2.2 (by omega) m (by omega)
      have ph:∀ (n:Nat) (L:List Int),(∀ m:Nat,m≤n→(m:Int)∈L)→n+1≤L.length:=by
       intro n
       induction n with
       | zero=>intro L hL;have:=hL 0 (Nat.le_refl _);exact List.length_pos_of_mem this
       | succ n ih =>
        intro L hL
        have:=ih (L.filter fun x=>decide (x≠((n+1:Nat):Int))) (fun m hm=>List.mem_filter.2 ⟨hL m (by omega),decide_eq_true (by omega)⟩)
        have:(L.filter fun x=>decide (x≠((n+1:Nat):Int))).length<L.length:=List.length_filter_lt_length_iff_exists.2 ⟨_,hL (n+1) (Nat.le_refl _),by simp⟩
        omega
      have hqq:=(hb1.qs q (List.mem_of_mem_head? hb1.hd)).1
      have:=ph (gt b.2 q).toNat b.2 (fun m hm=>key (gt b.2 q).toNat q hqq.1 hqq.2 (by omega) m hm)
      omega) (by decide)
   refine Tot.chk rfl (Tot.bindIdx 1 rfl (by simp) (Tot.chk rfl (Tot.bindIdx 0 rfl (by simp) (bindGt hqr (bindGt hqr (bindGt hxr (bindGt hxr (Tot.chk rfl (Tot.bindIdx 1 rfl (by simp) (Tot.chk (limB ?_) (hj _ ?_)))))))))))
   ·have:=hb1.mu;rw [List.length_append];simp only [List.length_singleton];omega
   ·show QI f to q M (b.1++[x1]) (b.2.set x1.toNat (w64 (gt b.2 x0+1)))∧(∀ a,0≤gt b.2 a→0≤gt (b.2.set x1.toNat (w64 (gt b.2 x0+1))) a)∧(x0=q→0≤gt (b.2.set x1.toNat (w64 (gt b.2 x0+1))) x1)
    rw [w64_id (by rw [eq0];omega) (by rw [eq0];omega)]
    rw [eq0] at hE ⊢
    refine⟨hb1.push hf hE hu,fun a ha => ?_,fun _ => ?_⟩
    ·by_cases h0:0≤a
     ·rw [gt_set hxr h0];split
      ·omega
      ·exact ha
     ·have e:∀ L,gt L a=gt L 0:=fun L=>by unfold gt;rw [show a.toNat=(0:Int).toNat from by omega]
      rw [e] at ha ⊢
      rw [gt_set hxr (Int.le_refl _)];split
      ·omega
      ·exact ha
    ·rw [gt_set hxr hxr.1,if_pos rfl];omega
  ·have hm':¬ (x0=q∧gt b.2 x1<0):=fun g=>by rw [hm.2 g] at h1;cases h1
   exact Classical.byContradiction fun g=>hm' ⟨e,Int.not_le.1 g⟩
  ·refine⟨hm.1,fun a ha=>hm.2.1 a (hb2 a ha),fun h1 e => ?_,fun h1 e => ?_⟩
   ·rcases hk2 with ⟨k0,ea,eb⟩ | ⟨k0,ea,eb⟩
    ·rw [← eb];exact hm.2.2 (ea.trans e)
    ·exact hm.2.1 _ (hb3 (by omega) e)
   ·rcases hk2 with ⟨k0,ea,eb⟩ | ⟨k0,ea,eb⟩
    ·omega
    ·rw [← eb];exact hm.2.2 (ea.trans e)
 ·unfold fabric_reach_L3
  refine Tot.iteF (decide_eq_false (by simp only;omega)) (Tot.last ⟨hb.1,hb.2.1,hb.2.2.1 (by decide),hb.2.2.2 (by decide)⟩)
theorem pigeon:∀ (n:Nat) (L:List Int),(∀ m:Nat,m≤n→(m:Int)∈L)→n+1≤L.length
 | 0,L,hL=>List.length_pos_of_mem (hL 0 (Nat.le_refl _))
 | n+1,L,hL=>by
  have:=pigeon n (L.filter fun x=>decide (x≠((n+1:Nat):Int))) (fun m hm=>List.mem_filter.2 ⟨hL m (by omega),decide_eq_true (by omega)⟩)
  have:(L.filter fun x=>decide (x≠((n+1:Nat):Int))).length<L.length:=List.length_filter_lt_length_iff_exists.2 ⟨_,hL (n+1) (Nat.le_refl _),by simp⟩
  omega
theorem gt_mem {D:List Int} {a:Int} (h:0≤a∧a<D.length):gt D a∈D:=by
 have hl:a.toNat<D.length:=by omega
 have:=gt_get hl
 rw [Int.toNat_of_nonneg h.1] at this
 rw [this];exact List.getElem_mem hl
theorem lab_lt {f:aFabric} (hf:FV f) {D:List Int} (len:(D.length:Int)=f.fSwitches) (pd:∀ a,0≤a→a<f.fSwitches→0<gt D a→∃ b,Ed f a b∧gt D b=gt D a-1) {a:Int} (h0:0≤a) (h1:a<f.fSwitches):gt D a<f.fSwitches:=by
 have key:∀ (n:Nat) (a:Int),0≤a→a<f.fSwitches→gt D a=n→∀ m:Nat,m≤n→(m:Int)∈D:=by
  intro n
  induction n with
  | zero =>
   intro a h0 h1 e m hm;have:m=0:=by omega
   subst this;rw [← e];exact gt_mem ⟨h0,by omega⟩
  | succ n ih =>
   intro a h0 h1 e m hm
   by_cases em:m=n+1
   ·subst em;rw [← e];exact gt_mem ⟨h0,by omega⟩
   ·obtain⟨c,hc,ec⟩:=pd a h0 h1 (by omega)
    exact ih c (hc.rng hf).2.1 (hc.rng hf).2.2 (by omega) m (by omega)
 by_cases h:0≤gt D a
 ·have:=pigeon (gt D a).toNat D (fun m hm=>key (gt D a).toNat a h0 h1 (by omega) m hm)
  omega
 ·have:=hf.s;omega
theorem l2_tot {f:aFabric} (hf:FV f) {to q:Int} {M:Nat} {Q D:List Int} (h:QI f to q M Q D) (hM:M≤1000) :
  Tot (loop (fabric_reach_L2 f (-1)) ((0:Int),Q,D)) (fun x=>QI f to q M x.1 x.2∧Prog f q f.fLinks.length x.2):=by
 refine Tot.rng f.fLinks.length (fun k (b:List Int×List Int)=>(((k:Nat):Int),b.1,b.2)) (fun k b=>QI f to q M b.1 b.2∧Prog f q k b.2) _ (Q,D) rfl ⟨h,fun i hi=>absurd hi (Nat.not_lt_zero _)⟩ (fun k b hk hb => ?_) (fun b hb => ?_)
 ·have hl:=hf.l
  have hlk:f.fLinks[k]? = some f.fLinks[k]:=List.getElem?_eq_getElem hk
  unfold fabric_reach_L2
  refine Tot.iteT (decide_eq_true (by simp only;omega)) (Tot.jnR (fun m:List Int×List Int=>QI f to q M m.1 m.2∧Prog f q (k+1) m.2) (fun j hj=>Tot.bindIdx k rfl hk (Tot.jnR (fun m:Bool=>m = !wk f k) (fun j2 hj2=>Tot.ite (fun h1 => ?_) (fun _=>Tot.bindOf (works_eq hf hk) (hj2 _ rfl))) (fun m hm=>Tot.ite (fun h1=>hj _ ⟨hb.1,?_⟩) (fun h1 => ?_)))) (fun m hm=>Tot.step m (by rw [wN (by omega)]) hm))
  ·have:=eq_of_beq h1;simp only at this;omega
  ·intro i hi l hl hw
   by_cases e:i=k
   ·subst e;rw [hm] at h1;rw [hw] at h1;cases h1
   ·exact hb.2 i (by omega) l hl hw
  ·have hw:wk f k=true:=by rw [hm] at h1;simpa using h1
   refine Tot.bindT (l3_tot hf hb.1 hM hlk hw) fun x hx=>hj _ ⟨hx.1,fun i hi l hl hw' => ?_⟩
   by_cases e:i=k
   ·subst e;rw [hlk] at hl;cases hl;exact hx.2.2
   ·have:=hb.2 i (by omega) l hl hw'
    exact⟨fun g=>hx.2.1 _ (this.1 g),fun g=>hx.2.1 _ (this.2 g)⟩
 ·unfold fabric_reach_L2
  exact Tot.iteF (decide_eq_false (by simp only;omega)) (Tot.last hb)
theorem mk_ok {n:Int} (h0:0≤n) (h1:n≤4000000000):(decide (0≤n)&&decide (n≤n)&&decide (n≤(LIM:Int)))=true:=by
 have h2:decide (n≤(LIM:Int))=true:=decide_eq_true (show n≤((4294967296:Nat):Int) by omega)
 rw [decide_eq_true h0,decide_eq_true (Int.le_refl n),h2];rfl
theorem minus_tot {f:aFabric} (hf:FV f):Tot (loop (fabric_reach_L0 f) ((0:Int),(List.replicate (maxI (0:Int) (minI f.fSwitches (f.fDead.length:Int))).toNat (0:Int)))) (fun D=>(D.length:Int)=f.fSwitches∧∀ a,0≤a→a<f.fSwitches→gt D a = -1):=by
 have hs:=hf.s
 refine Tot.rng f.fSwitches.toNat (fun k (D:List Int)=>(((k:Nat):Int),D)) (fun k D=>(D.length:Int)=f.fSwitches∧∀ a:Int,0≤a→a<k→gt D a = -1) _ _ rfl ⟨by rw [mm hf,List.length_replicate];omega,fun a h0 h1=>by omega⟩ (fun k D hk hb => ?_) (fun D hb => ?_)
 ·unfold fabric_reach_L0
  rw [mm hf]
  have hr:0≤(k:Int)∧(k:Int)<D.length:=by rw [hb.1];omega
  refine Tot.iteT (by simp only [List.length_replicate];exact decide_eq_true (by omega)) (bindGt hr (bindGt hr (Tot.step _ (by rw [wN (by omega)]) ⟨by rw [List.length_set];exact hb.1,fun a h0 h1 => ?_⟩)))
  show gt (D.set (k:Int).toNat (-1)) a = -1
  rw [gt_set hr h0]
  split
  ·rfl
  ·exact hb.2 a h0 (by omega)
 ·unfold fabric_reach_L0
  rw [mm hf]
  exact Tot.iteF (by simp only [List.length_replicate];exact decide_eq_false (by omega)) (Tot.last ⟨hb.1,fun a h0 h1=>hb.2 a h0 (by omega)⟩)
theorem start {f:aFabric} (hf:FV f) {to:Int} (ht:0≤to∧to<f.fSwitches) {D:List Int} (hl:(D.length:Int)=f.fSwitches) (hD:∀ a,0≤a→a<f.fSwitches→gt D a = -1) :
  ∀ a,0≤a→gt (D.set to.toNat 0) a=if a=to then 0 else gt D a:=fun a h0=>gt_set (by rw [hl];exact ht) h0
theorem reach_tot {f:aFabric} (hf:FV f) {to:Int} (ht:al f to=true):Tot (fabric_reach f to (-1)) (Dst f to):=by
 have hs:=hf.s
 have htr:0≤to∧to<f.fSwitches:=by have:=al_in ht;rw [hf.dd] at this;exact this
 unfold fabric_reach
 refine Tot.chk (by rw [mm hf];exact mk_ok (by omega) (by omega)) (Tot.bindT (minus_tot hf) fun D hD=>Tot.bindOf (alive_eq f to) ?_)
 rw [ht]
 have htl:0≤to∧to<D.length:=by rw [hD.1];exact htr
 have g:=start hf htr hD.1 hD.2
 refine Tot.iteF (by simp;omega) (bindGt htl (bindGt htl ?_))
 refine Tot.bindLoop (fun s=>(s.1=[]∧Dst f to s.2)∨∃ q M,M≤1000∧QI f to q M s.1 s.2) (fun s=>s.1.length+un s.2) (Dst f to) (.inr ⟨to,1+un (D.set to.toNat 0),?_,?_⟩) (fun s hs => ?_) (fun x hx=>Tot.some hx)
 ·have:un (D.set to.toNat 0)≤(D.set to.toNat 0).length:=List.countP_le_length
  rw [List.length_set] at this
  omega
 ·refine⟨by rw [List.length_set];exact hD.1,fun a h0 h1 => ?_,by rw [g to htr.1,if_pos rfl],fun a h0 h1 e => ?_,fun a h0 h1 hp => ?_,rfl,fun x hx => ?_,fun a h0 h1 => ?_,List.pairwise_singleton ..,fun a h0 h1 hl hn b hb => ?_,rfl⟩
  ·rw [g a h0,hD.2 a h0 h1];split<;>omega
  ·rw [g a h0,hD.2 a h0 h1] at e;split at e
   ·assumption
   ·cases e
  ·rw [g a h0,hD.2 a h0 h1] at hp;split at hp<;>omega
  ·have:=List.mem_singleton.1 hx;subst this
   exact⟨htr,by rw [g _ htr.1,if_pos rfl];omega⟩
  ·rw [g a h0,hD.2 a h0 h1,g to htr.1,if_pos rfl];split<;>omega
  ·rw [g a h0,hD.2 a h0 h1] at hl
   split at hl
   ·rename_i e;subst e;exact absurd (List.mem_singleton_self _) hn
   ·omega
 ·unfold fabric_reach_L1
  rcases hs with ⟨e,hd⟩ | ⟨q,M,hM,hq⟩
  ·exact Tot.iteF (by rw [e];rfl) (Tot.out hd)
  ·have hpos:∀ {Q E:List Int},QI f to q M Q E→0<Q.length:=fun {Q E} h=>by
    have:=h.hd
    match Q,this with
    | x :: R,_=>simp
   refine Tot.iteT (decide_eq_true (by have:=hpos hq;omega)) (Tot.bindT (l2_tot hf hq hM) fun x hx=>Tot.chk (by have:=hpos hx.1;simp;omega) (Tot.next ?_ ?_))
   ·rcases hx.1.pop hf (hx.1.closed hx.2) with h | ⟨q',M',h⟩
    ·exact .inl h
    ·refine .inr ⟨q',M',?_,h⟩
     have h1:=h.mu;have h2:=hx.1.mu
     rw [List.length_drop] at h1
     omega
   ·show(x.1.drop 1).length+un x.2<s.1.length+un s.2
    have h1:=hq.mu;have h2:=hx.1.mu;have:=hpos hx.1
    rw [List.length_drop]
    omega
theorem reach_dead {f:aFabric} (hf:FV f) {to:Int} (ht:al f to=false):Tot (fabric_reach f to (-1)) (fun D=>(D.length:Int)=f.fSwitches∧∀ a,0≤a→a<f.fSwitches→gt D a = -1):=by
 have hs:=hf.s
 unfold fabric_reach
 refine Tot.chk (by rw [mm hf];exact mk_ok (by omega) (by omega)) (Tot.bindT (minus_tot hf) fun D hD=>Tot.bindOf (alive_eq f to) ?_)
 rw [ht]
 exact Tot.iteT rfl (Tot.some hD)
-- by levels
structure LI (f:aFabric) (to:Int) (n m:Int) (D:List Int):Prop where
 len:(D.length:Int)=f.fSwitches
 lo:∀ a,0≤a→a<f.fSwitches → -1≤gt D a
 z:gt D to=0
 z':∀ a,0≤a→a<f.fSwitches→gt D a=0→a=to
 pd:∀ a,0≤a→a<f.fSwitches→0<gt D a→∃ b,Ed f a b∧gt D b=gt D a-1
 top:∀ a,0≤a→a<f.fSwitches→gt D a≤m
 nb:∀ a b,Ed f a b→0≤gt D a→gt D a<n→0≤gt D b∧gt D b≤gt D a+1
theorem LI.put {f:aFabric} (hf:FV f) {to n:Int} {D:List Int} (h0':0≤to) (hn0:0≤n) (h:LI f to n (n+1) D) {a x:Int} (hx:Ed f a x) (ha:gt D a=n) (hu:gt D x<0):LI f to n (n+1) (D.set x.toNat (n+1)):=by
 have hxr:=(hx.rng hf).2
 have har:=(hx.rng hf).1
 have hxl:0≤x∧x<D.length:=by rw [h.len];exact hxr
 have g:∀ b,0≤b→gt (D.set x.toNat (n+1)) b=if b=x then n+1 else gt D b:=fun b hb=>gt_set hxl hb
 have old:∀ b,0≤b→0≤gt D b→gt (D.set x.toNat (n+1)) b=gt D b:=fun b hb h0=>by
  rw [g b hb,if_neg (fun e=>by rw [e] at h0;omega)]
 refine⟨by rw [List.length_set];exact h.len,fun b h0 h1 => ?_,by rw [old to h0' (by rw [h.z];exact Int.le_refl _)];exact h.z,fun b h0 h1 e => ?_,fun b h0 h1 hp => ?_,fun b h0 h1 => ?_,fun b c hb h0 hlt => ?_⟩
 ·rw [g b h0];split
  ·omega
  ·exact h.lo b h0 h1
 ·rw [g b h0] at e
  split at e
  ·omega
  ·exact h.z' b h0 h1 e
 ·rw [g b h0] at hp ⊢
  split at hp
  ·rename_i e
   subst e
   rw [if_pos rfl]
   exact⟨a,hx.symm,by rw [old a har.1 (by omega)];omega⟩
  ·rename_i e
   rw [if_neg e]
   obtain⟨c,hc,ec⟩:=h.pd b h0 h1 hp
   exact⟨c,hc,by rw [old c (hc.rng hf).2.1 (by omega)];exact ec⟩
 ·rw [g b h0];split
  ·exact Int.le_refl _
  ·exact h.top b h0 h1
 ·have hbr:=(hb.rng hf).1
  rw [g b hbr.1] at h0 hlt ⊢
  split at hlt
  ·omega
  ·rename_i e
   rw [if_neg e] at h0
   rw [if_neg e]
   obtain⟨p1,p2⟩:=h.nb b c hb h0 hlt
   rw [old c (hb.rng hf).2.1 p1]
   exact⟨p1,p2⟩
def LP (f:aFabric) (n:Int) (k:Nat) (D:List Int):Prop:=∀ i,i<k→∀ l,f.fLinks[i]? = some l→wk f i=true→(gt D l.fA=n→0≤gt D l.fB)∧(gt D l.fB=n→0≤gt D l.fA)
theorem LP.put {f:aFabric} (hf:FV f) {n:Int} {k:Nat} {D:List Int} (h:LP f n k D) {x:Int} (hxl:0≤x∧x<D.length) (hn:0≤n):LP f n k (D.set x.toNat (n+1)):=by
 intro i hi l hl hw
 have hE:Ed f l.fA l.fB:=⟨i,l,hl,hw,.inl ⟨rfl,rfl⟩⟩
 have hr:=hE.rng hf
 have:=h i hi l hl hw
 rw [gt_set hxl hr.1.1,gt_set hxl hr.2.1]
 constructor
 ·intro e
  split at e
  ·omega
  ·split
   ·omega
   ·exact this.1 e
 ·intro e
  split at e
  ·omega
  ·split
   ·omega
   ·exact this.2 e
theorem rd_L2 {f:aFabric} (hf:FV f) {to:Int} (h0':0≤to) {n:Nat} (hn:n≤100) {D0 D:List Int} (h:LI f to n (n+1) D) :
  Tot (loop (xref13_Distances_L2 f ((n:Int),D0)) ((0:Int),D)) (fun x=>LI f to n (n+1) x∧LP f n f.fLinks.length x):=by
 refine Tot.rng f.fLinks.length (fun k (b:List Int)=>(((k:Nat):Int),b)) (fun k b=>LI f to n (n+1) b∧LP f n k b) _ D rfl ⟨h,fun i hi=>absurd hi (Nat.not_lt_zero _)⟩ (fun k b hk hb => ?_) (fun b hb => ?_)
 ·have hl:=hf.l
  have hlk:f.fLinks[k]? = some f.fLinks[k]:=List.getElem?_eq_getElem hk
  have hv:=hf.lk _ (List.getElem_mem hk)
  have hw:w64 ((n:Int)+1)=(n:Int)+1:=w64_id (by omega) (by omega)
  unfold xref13_Distances_L2
  refine Tot.iteT (decide_eq_true (by simp only;omega)) (Tot.jnR (fun m:List Int=>LI f to n (n+1) m∧LP f n (k+1) m) (fun j hj=>Tot.bindIdx k rfl hk (Tot.bindOf (rworks_eq hf hk) (Tot.ite (fun h1=>hj _ ⟨hb.1,?_⟩) (fun h1 => ?_)))) (fun m hm=>Tot.step m (by rw [wN (by omega)]) hm))
  ·intro i hi l hl hw
   by_cases e:i=k
   ·subst e;rw [hw] at h1;cases h1
   ·exact hb.2 i (by omega) l hl hw
  ·have hwk:wk f k=true:=by simpa using h1
   have hE:Ed f f.fLinks[k].fA f.fLinks[k].fB:=⟨k,_,hlk,hwk,.inl ⟨rfl,rfl⟩⟩
   have rA:∀ {X:List Int},LI f to n (n+1) X→0≤f.fLinks[k].fA∧f.fLinks[k].fA<X.length:=fun h=>by rw [h.len];exact hv.a
   have rB:∀ {X:List Int},LI f to n (n+1) X→0≤f.fLinks[k].fB∧f.fLinks[k].fB<X.length:=fun h=>by rw [h.len];exact hv.b
   have fin:∀ X,LI f to n (n+1) X→LP f n k X→(gt X f.fLinks[k].fA=n→0≤gt X f.fLinks[k].fB)→(gt X f.fLinks[k].fB=n→0≤gt X f.fLinks[k].fA)→LI f to n (n+1) X∧LP f n (k+1) X:=fun X h1 h2 h3 h4=>⟨h1,fun i hi l hl hw=>by
    by_cases e:i=k
    ·subst e;rw [hlk] at hl;cases hl;exact⟨h3,h4⟩
    ·exact h2 i (by omega) l hl hw⟩
   refine Tot.jnR (fun m:Bool=>m=true↔(gt b f.fLinks[k].fA=n∧gt b f.fLinks[k].fB<0)) (fun j3 hj3=>bindGt (rA hb.1) (bindGt (rA hb.1) (Tot.ite (fun h1=>bindGt (rB hb.1) (bindGt (rB hb.1) (hj3 _ ?_))) (fun h1=>hj3 _ ?_)))) (fun m hm=>Tot.jnR (fun m2:List Int=>LI f to n (n+1) m2∧LP f n k m2∧(gt m2 f.fLinks[k].fA=n→0≤gt m2 f.fLinks[k].fB)) (fun j3 hj3=>Tot.ite (fun h1=>bindGt (rB hb.1) (bindGt (rB hb.1) (hj3 _ ?_))) (fun h1=>hj3 _ ⟨hb.1,hb.2,?_⟩)) (fun m2 hm2=>Tot.jnR (fun m:Bool=>m=true↔(gt m2 f.fLinks[k].fB=n∧gt m2 f.fLinks[k].fA<0)) (fun j3 hj3=>bindGt (rB hm2.1) (bindGt (rB hm2.1) (Tot.ite (fun h1=>bindGt (rA hm2.1) (bindGt (rA hm2.1) (hj3 _ ?_))) (fun h1=>hj3 _ ?_)))) (fun m hm=>Tot.ite (fun h1=>bindGt (rA hm2.1) (bindGt (rA hm2.1) (hj _ ?_))) (fun h1=>hj _ (fin _ hm2.1 hm2.2.1 hm2.2.2 ?_)))))
   ·have:=eq_of_beq h1;simp only at this;simp [this]
   ·have:gt b f.fLinks[k].fA≠n:=fun e=>by simp [e] at h1
    simp [this]
   ·obtain⟨p1,p2⟩:=hm.1 h1
    rw [hw]
    refine⟨hb.1.put hf h0' (by omega) hE p1 p2,hb.2.put hf (rB hb.1) (by omega),fun _ => ?_⟩
    rw [gt_set (rB hb.1) hv.b.1,if_pos rfl];omega
   ·intro e
    exact Classical.byContradiction fun g=>by rw [hm.2 ⟨e,Int.not_le.1 g⟩] at h1;cases h1
   ·have:=eq_of_beq h1;simp only at this;simp [this]
   ·have:gt m2 f.fLinks[k].fB≠n:=fun e=>by simp [e] at h1
    simp [this]
   ·obtain⟨p1,p2⟩:=hm.1 h1
    rw [hw]
    refine fin _ (hm2.1.put hf h0' (by omega) hE.symm p1 p2) (hm2.2.1.put hf (rA hm2.1) (by omega)) (fun e => ?_) (fun _ => ?_)
    ·rw [gt_set (rA hm2.1) hv.a.1,if_pos rfl] at e;omega
    ·rw [gt_set (rA hm2.1) hv.a.1,if_pos rfl];omega
   ·intro e
    exact Classical.byContradiction fun g=>by rw [hm.2 ⟨e,Int.not_le.1 g⟩] at h1;cases h1
 ·unfold xref13_Distances_L2
  exact Tot.iteF (decide_eq_false (by simp only;omega)) (Tot.last hb)
theorem LI.up {f:aFabric} (hf:FV f) {to n:Int} {D:List Int} (h:LI f to n (n+1) D) (hp:LP f n f.fLinks.length D):LI f to (n+1) (n+1) D :=
 ⟨h.len,h.lo,h.z,h.z',h.pd,h.top,fun a b hb h0 hlt=>by
  by_cases e:gt D a<n
  ·exact h.nb a b hb h0 e
  ·have en:gt D a=n:=by omega
   have hbr:=(hb.rng hf).2
   refine⟨?_,by rw [en];exact h.top b hbr.1 hbr.2⟩
   obtain⟨i,l,h1,h2,h3⟩:=hb
   have:=hp i (List.getElem?_eq_some_iff.1 h1).1 l h1 h2
   rcases h3 with h3 | h3
   ·rw [← h3.2];exact this.1 (by rw [h3.1];exact en)
   ·rw [← h3.2];exact this.2 (by rw [h3.1];exact en)⟩
theorem rd_tot {f:aFabric} (hf:FV f) {to:Int} (ht:al f to=true):Tot (xref13_Distances f to) (Dst f to):=by
 have hs:=hf.s
 have htr:0≤to∧to<f.fSwitches:=by have:=al_in ht;rw [hf.dd] at this;exact this
 unfold xref13_Distances
 refine Tot.bindRng f.fSwitches.toNat (fun k (b:List Int)=>(((k:Nat):Int),b)) (fun k b=>b.length=k∧∀ x∈b,x = -1) (fun D:List Int=>(D.length:Int)=f.fSwitches∧∀ x∈D,x = -1) [] rfl ⟨rfl,fun x hx=>nomatch hx⟩ (fun k b hk hb => ?_) (fun b hb => ?_) (fun D hD => ?_)
 ·unfold xref13_Distances_L0
  refine Tot.iteT (decide_eq_true (by simp only;omega)) (Tot.chk (limB (by rw [List.length_append,hb.1];simp only [List.length_singleton];omega)) (Tot.step _ (by rw [wN (by omega)]) ⟨by rw [List.length_append,hb.1];rfl,fun x hx => ?_⟩))
  rcases List.mem_append.1 hx with hx | hx
  ·exact hb.2 x hx
  ·exact List.mem_singleton.1 hx
 ·unfold xref13_Distances_L0
  exact Tot.iteF (decide_eq_false (by simp only;omega)) (Tot.last ⟨by rw [hb.1];omega,hb.2⟩)
 ·have hDg:∀ a,0≤a→a<f.fSwitches→gt D a = -1:=fun a h0 h1=>hD.2 _ (gt_mem ⟨h0,by rw [hD.1];exact h1⟩)
  have htl:0≤to∧to<D.length:=by rw [hD.1];exact htr
  have g:=start hf htr hD.1 hDg
  refine Tot.bindOf (dead_eq f to) ?_
  rw [ht]
  refine Tot.iteF rfl (bindGt htl (bindGt htl ?_))
  refine Tot.bindRng f.fSwitches.toNat (fun k (b:List Int)=>(((k:Nat):Int),b)) (fun k b=>LI f to k k b) (Dst f to) (D.set to.toNat 0) rfl ?_ (fun k b hk hb => ?_) (fun b hb => ?_) (fun x hx=>Tot.some hx)
  ·refine⟨by rw [List.length_set];exact hD.1,fun a h0 h1 => ?_,by rw [g to htr.1,if_pos rfl],fun a h0 h1 e => ?_,fun a h0 h1 hp => ?_,fun a h0 h1 => ?_,fun a b hb h0 hlt=>absurd h0 (by omega)⟩
   ·rw [g a h0,hDg a h0 h1];split<;>omega
   ·rw [g a h0,hDg a h0 h1] at e;split at e
    ·assumption
    ·cases e
   ·rw [g a h0,hDg a h0 h1] at hp;split at hp<;>omega
   ·rw [g a h0,hDg a h0 h1];split<;>omega
  ·unfold xref13_Distances_L1
   refine Tot.iteT (decide_eq_true (by simp only;omega)) (Tot.bindT (rd_L2 hf htr.1 (by omega) ⟨hb.len,hb.lo,hb.z,hb.z',hb.pd,fun a h0 h1=>Int.le_trans (hb.top a h0 h1) (by omega),hb.nb⟩) fun x hx=>Tot.step x (by rw [wN (by omega)]) ?_)
   exact hx.1.up hf hx.2
  ·unfold xref13_Distances_L1
   refine Tot.iteF (decide_eq_false (by simp only;omega)) (Tot.last ⟨hb.len,hb.lo,hb.z,hb.z',fun a c hc h0=>hb.nb a c hc h0 ?_,hb.pd⟩)
   have:=lab_lt hf hb.len hb.pd (hc.rng hf).1.1 (hc.rng hf).1.2
   omega
def adK (f:aFabric) (D:List Int) (at':Int) (k:Nat) (o:List Int×List Int):List Int×List Int:=match f.fLinks[k]? with
 | none=>o
 | some l=>if at'=l.fA then (if wk f k=true∧gt D l.fB=gt D at'-1 then (o.1++[l.fB],o.2++[(k:Int)]) else o)
  else if at'=l.fB then (if wk f k=true∧gt D l.fA=gt D at'-1 then (o.1++[l.fA],o.2++[(k:Int)]) else o) else o
def outs (f:aFabric) (D:List Int) (at':Int):Nat→List Int×List Int
 | 0=>([],[])
 | k+1=>adK f D at' k (outs f D at' k)
structure OutOk (f:aFabric) (D:List Int) (at':Int) (k:Nat) (o:List Int×List Int):Prop where
 len:o.1.length=o.2.length
 le:o.2.length≤k
 e:∀ x∈o.1,(0≤x∧x<f.fSwitches)∧gt D x=gt D at'-1
 l:∀ x∈o.2,0≤x∧x<f.fLinks.length
theorem OutOk.add {f:aFabric} {D:List Int} {at':Int} {k:Nat} {o:List Int×List Int} (h:OutOk f D at' k o) {e:Int} (he:(0≤e∧e<f.fSwitches)∧gt D e=gt D at'-1) (hk:k<f.fLinks.length):OutOk f D at' (k+1) (o.1++[e],o.2++[(k:Int)]):=by
 refine⟨by simp [h.len],by rw [List.length_append];simp only [List.length_singleton];have:=h.le;omega,fun x hx => ?_,fun x hx => ?_⟩
 ·rcases List.mem_append.1 hx with hx | hx
  ·exact h.e x hx
  ·rw [List.mem_singleton.1 hx];exact he
 ·rcases List.mem_append.1 hx with hx | hx
  ·exact h.l x hx
  ·rw [List.mem_singleton.1 hx];omega
theorem OutOk.up {f:aFabric} {D:List Int} {at':Int} {k:Nat} {o:List Int×List Int} (h:OutOk f D at' k o):OutOk f D at' (k+1) o:=⟨h.len,Nat.le_succ_of_le h.le,h.e,h.l⟩
theorem outs_ok {f:aFabric} (hf:FV f) (D:List Int) (at':Int):∀ k,OutOk f D at' k (outs f D at' k)
 | 0=>⟨rfl,Nat.le_refl _,(fun x hx=>nomatch hx),(fun x hx=>nomatch hx)⟩
 | k+1=>by
  have h:=outs_ok hf D at' k
  show OutOk f D at' (k+1) (adK f D at' k (outs f D at' k))
  unfold adK
  cases e:f.fLinks[k]? with
  | none=>exact h.up
  | some l =>
   have hk:=(List.getElem?_eq_some_iff.1 e).1
   have hv:=hf.lk l (List.mem_of_getElem? e)
   dsimp only
   split
   ·split
    ·rename_i g;exact h.add ⟨hv.b,g.2⟩ hk
    ·exact h.up
   ·split
    ·split
     ·rename_i g;exact h.add ⟨hv.a,g.2⟩ hk
     ·exact h.up
    ·exact h.up
theorem adK_ne {f:aFabric} {D:List Int} {at':Int} {k:Nat} {o:List Int×List Int} (h:o.2≠[]):(adK f D at' k o).2≠[]:=by
 unfold adK
 split
 ·exact h
 ·split
  ·split
   ·simp
   ·exact h
  ·split
   ·split
    ·simp
    ·exact h
   ·exact h
theorem outs_ne {f:aFabric} {D:List Int} {a b:Int} (hE:Ed f a b) (hd:gt D b=gt D a-1):(outs f D a f.fLinks.length).2≠[]:=by
 obtain⟨i,l,h1,h2,h3⟩:=hE
 have hi:=(List.getElem?_eq_some_iff.1 h1).1
 have key:∀ n,i+1≤n→(outs f D a n).2≠[]:=by
  intro n
  induction n with
  | zero=>intro h;omega
  | succ n ih =>
   intro h
   by_cases e:i=n
   ·subst e
    show(adK f D a i _).2≠[]
    unfold adK
    rw [h1]
    dsimp only
    rcases h3 with h3 | h3
    ·rw [if_pos h3.1.symm,if_pos ⟨h2,by rw [h3.2];exact hd⟩];simp
    ·by_cases ea:a=l.fA
     ·have:l.fA=l.fB:=by rw [← ea,h3.1]
      rw [if_pos ea,if_pos ⟨h2,by rw [← this,h3.2];exact hd⟩];simp
     ·rw [if_neg ea,if_pos h3.1.symm,if_pos ⟨h2,by rw [h3.2];exact hd⟩];simp
   ·exact adK_ne (ih (by omega))
 exact key _ hi
theorem way_L1 {f:aFabric} (hf:FV f) {to:Int} {D:List Int} (hD:Dst f to D) {at':Int} (ha:0≤at'∧at'<f.fSwitches) (out:List Int) :
  Tot (loop (forward_Way_L1 f D (at',out)) ((0:Int),([]:List Int),([]:List Int))) (fun x=>x=outs f D at' f.fLinks.length):=by
 refine Tot.rng f.fLinks.length (fun k (b:List Int×List Int)=>(((k:Nat):Int),b.1,b.2)) (fun k b=>b=outs f D at' k) _ ([],[]) rfl rfl (fun k b hk hb => ?_) (fun b hb => ?_)
 ·subst hb
  have hl:=hf.l
  have hlk:f.fLinks[k]? = some f.fLinks[k]:=List.getElem?_eq_getElem hk
  have hv:=hf.lk _ (List.getElem_mem hk)
  have ho:=outs_ok hf D at' k
  have hal:0≤at'∧at'<D.length:=by rw [hD.len];exact ha
  have hlow:=hD.lo at' ha.1 ha.2
  have hup:=lab_lt hf hD.len hD.pd ha.1 ha.2
  have hs:=hf.s
  have hw:w64 (gt D at'-1)=gt D at'-1:=w64_id (by omega) (by omega)
  obtain⟨r,hr,hc⟩:∃ r:Int×Bool,forward_other f.fLinks[k] at'=some r∧((r.2=true∧(0≤r.1∧r.1<f.fSwitches)∧outs f D at' (k+1)=if wk f k=true∧gt D r.1=gt D at'-1 then ((outs f D at' k).1++[r.1],(outs f D at' k).2++[(k:Int)]) else outs f D at' k)∨(r.2=false∧outs f D at' (k+1)=outs f D at' k)):=by
   have e:outs f D at' (k+1)=adK f D at' k (outs f D at' k):=rfl
   unfold adK at e
   rw [hlk] at e
   dsimp only at e
   unfold forward_other
   by_cases hA:at'=f.fLinks[k].fA
   ·rw [if_pos hA] at e
    exact⟨_,if_pos (beq_iff_eq.2 hA),.inl ⟨rfl,hv.b,e⟩⟩
   ·rw [if_neg hA] at e
    rw [if_neg (by simpa using hA)]
    by_cases hB:at'=f.fLinks[k].fB
    ·rw [if_pos hB] at e
     exact⟨_,if_pos (beq_iff_eq.2 hB),.inl ⟨rfl,hv.a,e⟩⟩
    ·rw [if_neg hB] at e
     exact⟨_,if_neg (by simpa using hB),.inr ⟨rfl,e⟩⟩
  unfold forward_Way_L1
  refine Tot.iteT (decide_eq_true (by simp only;omega)) (Tot.bindIdx k rfl hk (Tot.bindOf hr (Tot.jnR (fun m:Bool=>outs f D at' (k+1)=if m=true then ((outs f D at' k).1++[r.1],(outs f D at' k).2++[(k:Int)]) else outs f D at' k) (fun j hj => ?_) (fun m hm=>Tot.jnR (fun o:List Int×List Int=>o=outs f D at' (k+1)) (fun j hj=>Tot.ite (fun h1=>Tot.chk (limB (by have:=ho.le;rw [List.length_append];simp only [List.length_singleton];omega)) (Tot.chk (limB (by have:=ho.le;rw [List.length_append,ho.len];simp only [List.length_singleton];omega)) (hj _ ?_))) (fun h1=>hj _ ?_)) (fun o ho=>Tot.step o (by rw [wN (by omega)]) ho)))))
  ·rcases hc with ⟨h2,hr,e⟩ | ⟨h2,e⟩
   ·have hrl:0≤r.1∧r.1<D.length:=by rw [hD.len];exact hr
    refine Tot.iteT (by rw [h2,decide_eq_true hrl.2];rfl) (Tot.bindOf (works_eq hf hk) (Tot.ite (fun h1=>bindGt hrl (bindGt hal (hj _ ?_))) (fun h1=>hj _ ?_)))
    ·rw [hw,e,h1];simp
    ·rw [e,h1];simp
   ·exact Tot.iteF (by rw [h2];rfl) (hj _ (by rw [e];simp))
  ·rw [hm,if_pos h1]
  ·rw [hm,if_neg (by simpa using h1)]
 ·subst hb
  unfold forward_Way_L1
  exact Tot.iteF (decide_eq_false (by simp only;omega)) (Tot.last rfl)
theorem rway_L1 {f:aFabric} (hf:FV f) {to:Int} {D:List Int} (hD:Dst f to D) {at':Int} (ha:0≤at'∧at'<f.fSwitches) (out:List Int) :
  Tot (loop (xref14_Way_L1 f D (at',out)) ((0:Int),([]:List Int),([]:List Int))) (fun x=>(0≤gt D at'→x=outs f D at' f.fLinks.length)∧(gt D at'<0→x=([],[]))):=by
 refine Tot.rng f.fLinks.length (fun k (b:List Int×List Int)=>(((k:Nat):Int),b.1,b.2)) (fun k b=>(0≤gt D at'→b=outs f D at' k)∧(gt D at'<0→b=([],[]))) _ ([],[]) rfl ⟨fun _=>rfl,fun _=>rfl⟩ (fun k b hk hb => ?_) (fun b hb => ?_)
 ·have hl:=hf.l
  have hlk:f.fLinks[k]? = some f.fLinks[k]:=List.getElem?_eq_getElem hk
  have hv:=hf.lk _ (List.getElem_mem hk)
  have ho:=outs_ok hf D at' k
  have hal:0≤at'∧at'<D.length:=by rw [hD.len];exact ha
  have hlow:=hD.lo at' ha.1 ha.2
  have hup:=lab_lt hf hD.len hD.pd ha.1 ha.2
  have hs:=hf.s
  have hw:w64 (gt D at'-1)=gt D at'-1:=w64_id (by omega) (by omega)
  have e:outs f D at' (k+1)=adK f D at' k (outs f D at' k):=rfl
  unfold adK at e
  rw [hlk] at e
  dsimp only at e
  unfold xref14_Way_L1
  refine Tot.iteT (decide_eq_true (by simp only;omega)) (Tot.bindIdx k rfl hk (Tot.jnR (fun m:Int=>((0≤m∧m<f.fSwitches)∧outs f D at' (k+1)=if wk f k=true∧gt D m=gt D at'-1 then ((outs f D at' k).1++[m],(outs f D at' k).2++[(k:Int)]) else outs f D at' k)∨(m = -1∧outs f D at' (k+1)=outs f D at' k))
   (fun j hj=>Tot.ite (fun h1=>hj _ (.inl ⟨hv.b,by rw [e,if_pos (eq_of_beq h1)]⟩)) (fun h1=>Tot.ite (fun h2=>hj _ (.inl ⟨hv.a,by rw [e,if_neg (by simpa using h1),if_pos (eq_of_beq h2)]⟩)) (fun h2=>hj _ (.inr ⟨rfl,by rw [e,if_neg (by simpa using h1),if_neg (by simpa using h2)]⟩))))
   (fun r hc=>Tot.jnR (fun m:Bool=>(0≤gt D at'→outs f D at' (k+1)=if m=true then ((outs f D at' k).1++[r],(outs f D at' k).2++[(k:Int)]) else outs f D at' k)∧(gt D at'<0→m=false)) (fun j hj => ?_) (fun m hm=>Tot.jnR (fun o:List Int×List Int=>(0≤gt D at'→o=outs f D at' (k+1))∧(gt D at'<0→o=([],[]))) (fun j hj=>Tot.ite (fun h1 => ?_) (fun h1=>hj _ ⟨fun g => ?_,fun g=>hb.2 g⟩)) (fun o ho=>Tot.step o (by rw [wN (by omega)]) ho)))))
  ·rcases hc with ⟨hr,e⟩ | ⟨hr,e⟩
   ·have hrl:0≤r∧r<D.length:=by rw [hD.len];exact hr
    refine Tot.iteT (decide_eq_true hr.1) (Tot.bindOf (rworks_eq hf hk) (Tot.ite (fun h1=>bindGt hal (Tot.ite (fun h3=>bindGt hrl (bindGt hal (hj _ ⟨fun _ => ?_,fun g => ?_⟩))) (fun h3=>hj _ ⟨fun g => ?_,fun _=>rfl⟩))) (fun h1=>hj _ ⟨fun _ => ?_,fun _=>rfl⟩)))
    ·rw [hw,e,h1];simp
    ·exact absurd (of_decide_eq_true h3) (Int.not_le.2 g)
    ·exact absurd g (of_decide_eq_false h3)
    ·rw [e,h1];simp
   ·exact Tot.iteF (by rw [hr];rfl) (hj _ ⟨fun _=>by rw [e];simp,fun _=>rfl⟩)
  ·have g:0≤gt D at':=Int.not_lt.1 fun g=>by rw [hm.2 g] at h1;cases h1
   have eb:=hb.1 g
   refine Tot.chk (limB (by rw [eb];have:=ho.le;rw [List.length_append];simp only [List.length_singleton];omega)) (Tot.chk (limB (by rw [eb];have:=ho.le;rw [List.length_append,ho.len];simp only [List.length_singleton];omega)) (hj _ ⟨fun _ => ?_,fun g'=>by omega⟩))
   rw [hm.1 g,if_pos h1,eb]
  ·rw [hm.1 g,if_neg (by simpa using h1)];exact hb.1 g
 ·unfold xref14_Way_L1
  exact Tot.iteF (decide_eq_false (by simp only;omega)) (Tot.last hb)
def wayF (f:aFabric) (D:List Int) (h:Nat):Nat→Int→List Int
 | 0,_=>[]
 | n+1,a=>(outs f D a f.fLinks.length).2.getD (h % (outs f D a f.fLinks.length).2.length) 0 :: wayF f D h n ((outs f D a f.fLinks.length).1.getD (h % (outs f D a f.fLinks.length).2.length) 0)
theorem wayF_len (f:aFabric) (D:List Int) (h:Nat):∀ n a,(wayF f D h n a).length=n
 | 0,_=>rfl
 | n+1,a=>by simp [wayF,wayF_len f D h n]
theorem maxN (h:Nat):maxI (0:Int) (h:Int)=h:=by unfold maxI;split<;>omega
theorem step_out {f:aFabric} (hf:FV f) {to:Int} {D:List Int} (hD:Dst f to D) {a:Int} (ha:0≤a∧a<f.fSwitches) (hp:0<gt D a) (h:Nat) :
  ∃ (i:Nat) (h1:i<(outs f D a f.fLinks.length).1.length) (h2:i<(outs f D a f.fLinks.length).2.length),Int.tmod (maxI (0:Int) (h:Int)) ((outs f D a f.fLinks.length).2.length:Int)=i∧((outs f D a f.fLinks.length).2.length:Int)≠0 ∧
   (∀ n,wayF f D h (n+1) a=(outs f D a f.fLinks.length).2[i] :: wayF f D h n (outs f D a f.fLinks.length).1[i])∧(0≤(outs f D a f.fLinks.length).1[i]∧(outs f D a f.fLinks.length).1[i]<f.fSwitches)∧gt D (outs f D a f.fLinks.length).1[i]=gt D a-1:=by
 have ho:=outs_ok hf D a f.fLinks.length
 obtain⟨b,hE,hb⟩:=hD.pd a ha.1 ha.2 hp
 have hne:=outs_ne hE hb
 have hpos:0<(outs f D a f.fLinks.length).2.length:=List.length_pos_iff.2 hne
 have hi:h % (outs f D a f.fLinks.length).2.length<(outs f D a f.fLinks.length).2.length:=Nat.mod_lt _ hpos
 have hi1:h % (outs f D a f.fLinks.length).2.length<(outs f D a f.fLinks.length).1.length:=by rw [ho.len];exact hi
 refine⟨_,hi1,hi,by rw [maxN,Int.tmod_eq_emod_of_nonneg (by omega)];rfl,by omega,fun n => ?_,(ho.e _ (List.getElem_mem hi1)).1,(ho.e _ (List.getElem_mem hi1)).2⟩
 show _ :: _=_
 rw [List.getD_eq_getElem?_getD,List.getD_eq_getElem?_getD,List.getElem?_eq_getElem hi,List.getElem?_eq_getElem hi1];rfl
theorem wayF_in {f:aFabric} (hf:FV f) {to:Int} {D:List Int} (hD:Dst f to D) (h:Nat):∀ (n:Nat) (a:Int),0≤a∧a<f.fSwitches→gt D a=n→∀ x∈wayF f D h n a,0≤x∧x<f.fLinks.length
 | 0,a,ha,e,x,hx=>nomatch hx
 | n+1,a,ha,e,x,hx=>by
  obtain⟨i,h1,h2,_,_,hw,hr,hg⟩:=step_out hf hD ha (by omega) h
  rw [hw n] at hx
  rcases List.mem_cons.1 hx with hx | hx
  ·rw [hx];exact(outs_ok hf D a f.fLinks.length).l _ (List.getElem_mem h2)
  ·exact wayF_in hf hD h n _ hr (by omega) x hx
section
variable {f:aFabric} (hf:FV f) {to:Int} {D:List Int} (hD:Dst f to D) {a:Int} (ha:0≤a∧a<f.fSwitches) {n:Nat} (hn:gt D a=n) (h:Nat)
include hf hD ha hn
theorem way_L0:Tot (loop (forward_Way_L0 f to (h:Int) D) (a,([]:List Int))) (fun x=>x = .inr (wayF f D h n a)):=by
 have hs:=hf.s
 have hup:=lab_lt hf hD.len hD.pd ha.1 ha.2
 refine Tot.rng n (fun k (b:Int×List Int)=>b) (fun k b=>(0≤b.1∧b.1<f.fSwitches)∧k≤n∧gt D b.1=((n-k:Nat):Int)∧b.2++wayF f D h (n-k) b.1=wayF f D h n a) _ (a,[]) rfl ⟨ha,Nat.zero_le _,hn,rfl⟩ (fun k b hk hb => ?_) (fun b hb => ?_)
 ·obtain⟨hr,_,hg,hw⟩:=hb
  obtain⟨i,h1,h2,em,hne,hw',hr',hg'⟩:=step_out hf hD hr (by omega) h
  have hne':b.1≠to:=fun e=>by rw [e,hD.z] at hg;omega
  have hlen:b.2.length+(n-k)=n:=by have:=congrArg List.length hw;rw [List.length_append,wayF_len,wayF_len] at this;exact this
  unfold forward_Way_L0
  refine Tot.iteT (bne_iff_ne.2 hne') (Tot.bindT (way_L1 hf hD hr b.2) fun x hx => ?_)
  subst hx
  refine Tot.iteF (by simpa using hne) (Tot.chk (decide_eq_true hne) (Tot.bindIdx i em h2 (Tot.bindIdx i em h2 (Tot.chk (limB (by rw [List.length_append];simp only [List.length_singleton];omega)) (Tot.bindIdx i em h1 (Tot.bindIdx i em h1 (Tot.step _ rfl ⟨hr',hk,by rw [hg',hg];omega,?_⟩)))))))
  rw [← hw,show n-k=(n-(k+1))+1 from by omega,hw',List.append_assoc];rfl
 ·obtain⟨hr,_,hg,hw⟩:=hb
  rw [Nat.sub_self] at hg hw
  have:b.1=to:=hD.z' _ hr.1 hr.2 hg
  unfold forward_Way_L0
  refine Tot.iteF (by rw [this];simp) (Tot.last ?_)
  rw [← hw];simp [wayF]
theorem rway_L0:Tot (loop (xref14_Way_L0 f to (h:Int) D) (a,([]:List Int))) (fun x=>x = .inr (wayF f D h n a)):=by
 have hs:=hf.s
 have hup:=lab_lt hf hD.len hD.pd ha.1 ha.2
 refine Tot.rng n (fun k (b:Int×List Int)=>b) (fun k b=>(0≤b.1∧b.1<f.fSwitches)∧k≤n∧gt D b.1=((n-k:Nat):Int)∧b.2++wayF f D h (n-k) b.1=wayF f D h n a) _ (a,[]) rfl ⟨ha,Nat.zero_le _,hn,rfl⟩ (fun k b hk hb => ?_) (fun b hb => ?_)
 ·obtain⟨hr,_,hg,hw⟩:=hb
  obtain⟨i,h1,h2,em,hne,hw',hr',hg'⟩:=step_out hf hD hr (by omega) h
  have hne':b.1≠to:=fun e=>by rw [e,hD.z] at hg;omega
  have hlen:b.2.length+(n-k)=n:=by have:=congrArg List.length hw;rw [List.length_append,wayF_len,wayF_len] at this;exact this
  unfold xref14_Way_L0
  refine Tot.iteT (bne_iff_ne.2 hne') (Tot.bindT (rway_L1 hf hD hr b.2) fun x hx => ?_)
  have hx:=hx.1 (by omega)
  subst hx
  refine Tot.iteF (by simpa using hne) (Tot.chk (decide_eq_true hne) (Tot.bindIdx i em h2 (Tot.bindIdx i em h2 (Tot.chk (limB (by rw [List.length_append];simp only [List.length_singleton];omega)) (Tot.bindIdx i em h1 (Tot.bindIdx i em h1 (Tot.step _ rfl ⟨hr',hk,by rw [hg',hg];omega,?_⟩)))))))
  rw [← hw,show n-k=(n-(k+1))+1 from by omega,hw',List.append_assoc];rfl
 ·obtain⟨hr,_,hg,hw⟩:=hb
  rw [Nat.sub_self] at hg hw
  have:b.1=to:=hD.z' _ hr.1 hr.2 hg
  unfold xref14_Way_L0
  refine Tot.iteF (by rw [this];simp) (Tot.last ?_)
  rw [← hw];simp [wayF]
end
structure WayOk (f:aFabric) (w:List Int×Bool):Prop where
 k:∀ x∈w.1,0≤x∧x<f.fLinks.length
 l:w.1.length≤8
 n:w.2=false→w.1=[]
theorem way_ex {f:aFabric} (hf:FV f) {a b:Int} (ha:0≤a∧a<f.fSwitches) (hb:0≤b∧b<f.fSwitches) (h:Nat) :
  ∃ w,forward_Way f a b (h:Int)=some w∧xref14_Way f a b (h:Int)=some w∧WayOk f w:=by
 have no:WayOk f ([],false):=⟨(fun x hx=>nomatch hx),by simp,fun _=>rfl⟩
 have hs:=hf.s
 cases hbl:al f b with
 | false =>
  refine⟨([],false),Tot.eq ?_,Tot.eq ?_,no⟩
  ·unfold forward_Way fabric_Distances
   refine Tot.bindT (Tot.bindT (reach_dead hf hbl) fun D hD=>Tot.some hD) fun D hD=>Tot.jnR (fun m:Bool=>m=true) (fun j hj=>Tot.ite (fun _=>hj _ rfl) (fun _=>bindGt (by rw [hD.1];exact ha) (hj _ (by rw [hD.2 a ha.1 ha.2];rfl)))) (fun m hm=>Tot.iteT hm (Tot.some rfl))
  ·unfold xref14_Way
   refine Tot.jnR (fun m:Bool=>m=true) (fun j hj=>Tot.bindOf (dead_eq f a) (Tot.ite (fun _=>hj _ rfl) (fun _=>Tot.bindOf (dead_eq f b) (hj _ (by rw [hbl];rfl))))) (fun m hm=>Tot.iteT hm (Tot.some rfl))
 | true =>
  obtain⟨D,hr,hD⟩:=reach_tot hf hbl
  obtain⟨D',hr',hD'⟩:=rd_tot hf hbl
  have e:=hD'.uniq hf hD
  subst e
  have hup:=lab_lt hf hD.len hD.pd ha.1 ha.2
  by_cases hg:0≤gt D' a
  ·obtain⟨n,hn⟩:∃ n:Nat,gt D' a=n:=⟨(gt D' a).toNat,by omega⟩
   have hal:al f a=true:=by
    by_cases e:gt D' a=0
    ·rw [hD.z' a ha.1 ha.2 e];exact hbl
    ·obtain⟨c,hc,_⟩:=hD.pd a ha.1 ha.2 (by omega)
     exact hc.al.1
   refine⟨(wayF f D' h n a,true),Tot.eq ?_,Tot.eq ?_,⟨wayF_in hf hD h n a ha hn,by rw [wayF_len];omega,fun x=>nomatch x⟩⟩
   ·unfold forward_Way fabric_Distances
    refine Tot.bindOf (by rw [hr];rfl) (Tot.jnR (fun m:Bool=>m=false) (fun j hj=>Tot.iteF (by rw [hD.len];simp;omega) (bindGt (by rw [hD.len];exact ha) (hj _ (decide_eq_false (by omega))))) (fun m hm=>Tot.iteF hm (Tot.bindT (way_L0 hf hD ha hn h) fun x hx=>by rw [hx];exact Tot.some rfl)))
   ·unfold xref14_Way
    refine Tot.jnR (fun m:Bool=>m=false) (fun j hj=>Tot.bindOf (dead_eq f a) (Tot.iteF (by rw [hal];rfl) (Tot.bindOf (dead_eq f b) (hj _ (by rw [hbl];rfl))))) (fun m hm=>Tot.iteF hm (Tot.bindOf hr' (Tot.bindT (rway_L0 hf hD ha hn h) fun x hx=>by rw [hx];exact Tot.some rfl)))
  ·refine⟨([],false),Tot.eq ?_,Tot.eq ?_,no⟩
   ·unfold forward_Way fabric_Distances
    refine Tot.bindOf (by rw [hr];rfl) (Tot.jnR (fun m:Bool=>m=true) (fun j hj=>Tot.iteF (by rw [hD.len];simp;omega) (bindGt (by rw [hD.len];exact ha) (hj _ (decide_eq_true (by omega))))) (fun m hm=>Tot.iteT hm (Tot.some rfl)))
   ·unfold xref14_Way
    refine Tot.jnR (fun m:Bool=>True) (fun j hj=>Tot.bindOf (dead_eq f a) (Tot.ite (fun _=>hj _ trivial) (fun _=>Tot.bindOf (dead_eq f b) (hj _ trivial)))) (fun m hm=>Tot.ite (fun _=>Tot.some rfl) (fun _=>Tot.bindOf hr' (Tot.bindLoop (fun s=>s=(a,[])) (fun _=>0) (fun x=>x = .inl ()) rfl (fun s hs => ?_) (fun x hx=>by rw [hx];exact Tot.some rfl))))
    subst hs
    have:a≠b:=fun e=>by rw [e,hD.z] at hg;exact hg (Int.le_refl _)
    unfold xref14_Way_L0
    exact Tot.iteT (bne_iff_ne.2 this) (Tot.bindT (rway_L1 hf hD ha []) fun x hx=>by rw [hx.2 (by omega)];exact Tot.iteT rfl (Tot.out rfl))
end Go.Proofs.Ytkcpjnjneehecaa
