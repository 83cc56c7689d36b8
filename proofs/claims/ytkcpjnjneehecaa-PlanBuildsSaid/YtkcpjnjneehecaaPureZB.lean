/- What is valid, orders, sums, what is given up. -/
import Derived.Test.YtkcpjnjneehecaaPureZA
namespace Go.Proofs.Ytkcpjnjneehecaa
open Go Go.Vc
theorem allLoop {n:Nat} {tb:Int→Option ((Unit⊕Unit)⊕Int)} (P:Nat→Prop) (hn:n≤4000000000)
  (h:∀ k,k<n→Tot (tb (k:Int)) (fun y=>(y = .inl (.inl ())∧¬ P k)∨(y = .inr (w64 ((k:Int)+1))∧P k))) (he:tb (n:Int)=some (.inl (.inr ()))) :
  Tot (loop tb (0:Int)) (fun x=>(x = .inr ()∧∀ k,k<n→P k)∨(x = .inl ()∧¬ ∀ k,k<n→P k)):=by
 refine Tot.rng n (fun k (_:Unit)=>((k:Nat):Int)) (fun k _=>∀ i,i<k→P i) _ () rfl (fun i hi=>absurd hi (Nat.not_lt_zero _)) (fun k b hk hb => ?_) (fun b hb => ?_)
 ·refine(h k hk).mono fun y hy => ?_
  rcases hy with ⟨rfl,hp⟩ | ⟨rfl,hp⟩
  ·exact .inr ⟨rfl,fun g=>hp (g k hk)⟩
  ·exact⟨(),wN (by omega),fun i hi=>by
    by_cases e:i=k
    ·subst e;exact hp
    ·exact hb i (by omega)⟩
 ·exact⟨_,he,.inl ⟨rfl,hb⟩⟩
theorem bad_or {b:Bool} {P:Prop} {k:Int} (h:b=true↔¬ P):Tot (if b=true then some (.inl (.inl ())) else some (.inr k):Option ((Unit⊕Unit)⊕Int)) (fun y=>(y = .inl (.inl ())∧¬ P)∨(y = .inr k∧P)) :=
 Tot.ite (fun e=>Tot.some (.inl ⟨rfl,h.1 e⟩)) (fun e=>Tot.some (.inr ⟨rfl,Classical.byContradiction fun g=>by rw [h.2 g] at e;cases e⟩))
theorem fvalid_tot {f:aFabric} (hl:f.fLinks.length≤1000000):Tot (fabric_Valid f) (fun b=>b=true↔FV f):=by
 unfold fabric_Valid
 refine Tot.bindT (allLoop (fun k=>∀ l,f.fLinks[k]? = some l→LV f.fSwitches l) (by omega:f.fLinks.length≤_) (fun k hk => ?_) ?_) fun x hx => ?_
 ·unfold fabric_Valid_L0
  refine Tot.iteT (decide_eq_true (by omega)) (Tot.bindIdx k rfl hk (bad_or ?_))
  rw [List.getElem?_eq_getElem hk]
  simp only [Bool.or_eq_true,decide_eq_true_eq,beq_iff_eq,Option.some.injEq]
  constructor
  ·intro h g
   have:=g _ rfl
   have h1:=this.a;have h2:=this.b;have h3:=this.c;have h4:=this.ne
   omega
  ·intro h
   refine Classical.byContradiction fun g=>h fun l e => ?_
   subst e
   exact⟨by omega,by omega,by omega,by omega⟩
 ·unfold fabric_Valid_L0;rw [if_neg (by simp)]
 ·rcases hx with ⟨rfl,h⟩ | ⟨rfl,h⟩
  ·refine Tot.some ?_
   simp only [Bool.and_eq_true,decide_eq_true_eq,beq_iff_eq]
   constructor
   ·intro g
    refine⟨⟨by omega,by omega⟩,by omega,by omega,by omega,fun x hx => ?_⟩
    obtain⟨k,hk,e⟩:=List.mem_iff_getElem.1 hx
    exact h k hk x (by rw [List.getElem?_eq_getElem hk,e])
   ·intro g
    have:=g.s;have:=g.l;have:=g.dn;have:=g.dd
    omega
  ·refine Tot.some ⟨(fun g=>by cases g),fun g=>absurd (fun k hk l e=>g.lk l (List.mem_of_getElem? e)) h⟩
theorem rvalid_tot {f:aFabric} (hl:f.fLinks.length≤1000000):Tot (xref13_Valid f) (fun b=>b=true↔FV f):=by
 unfold xref13_Valid
 refine Tot.ite (fun h=>Tot.some ⟨(fun g=>by cases g),fun g => ?_⟩) (fun hn => ?_)
 ·have:=g.s;have:=g.l;have:=g.dn;have:=g.dd
  simp only [Bool.or_eq_true,decide_eq_true_eq,bne_iff_ne] at h
  omega
 refine Tot.bindT (allLoop (fun k=>∀ l,f.fLinks[k]? = some l→LV f.fSwitches l) (by omega:f.fLinks.length≤_) (fun k hk => ?_) ?_) fun x hx => ?_
 ·unfold xref13_Valid_L0
  refine Tot.iteT (decide_eq_true (by omega)) (Tot.bindIdx k rfl hk (bad_or ?_))
  rw [List.getElem?_eq_getElem hk]
  simp only [Bool.or_eq_true,decide_eq_true_eq,beq_iff_eq,Option.some.injEq]
  constructor
  ·intro h g
   have:=g _ rfl
   have h1:=this.a;have h2:=this.b;have h3:=this.c;have h4:=this.ne
   omega
  ·intro h
   refine Classical.byContradiction fun g=>h fun l e => ?_
   subst e
   exact⟨by omega,by omega,by omega,by omega⟩
 ·unfold xref13_Valid_L0;rw [if_neg (by simp)]
 ·rcases hx with ⟨rfl,h⟩ | ⟨rfl,h⟩
  ·refine Tot.some ⟨fun _ => ?_,fun _=>rfl⟩
   have hn:¬ (((((f.fSwitches<1∨8<f.fSwitches)∨24<(f.fLinks.length:Int))∨(f.fDown.length:Int)≠f.fLinks.length)∨(f.fDead.length:Int)≠f.fSwitches)):=fun g=>by
    have:(((((decide (f.fSwitches<(1:Int))) || (decide ((8:Int)<f.fSwitches))) || (decide ((24:Int)<(f.fLinks.length:Int)))) || ((f.fDown.length:Int) != (f.fLinks.length:Int))) || ((f.fDead.length:Int) != f.fSwitches))=true:=by
     simp only [Bool.or_eq_true,decide_eq_true_eq,bne_iff_ne];exact g
    rw [this] at hn;cases hn
   refine⟨⟨by omega,by omega⟩,by omega,by omega,by omega,fun x hx => ?_⟩
   obtain⟨k,hk,e⟩:=List.mem_iff_getElem.1 hx
   exact h k hk x (by rw [List.getElem?_eq_getElem hk,e])
  ·exact Tot.some ⟨(fun g=>by cases g),fun g=>absurd (fun k hk l e=>g.lk l (List.mem_of_getElem? e)) h⟩
theorem it_eq (x y:aItem):((x.fSwitch==y.fSwitch)&&((x.fIndex==y.fIndex)&&true))=true↔x=y:=by
 cases x;cases y;simp
theorem contains_tot (l:List aItem) (hl:l.length≤1000000) (x:aItem):Tot (slices_Contains l x) (fun b=>b=true↔x∈l):=by
 unfold slices_Contains slices_Index
 refine Tot.bindT (Tot.bindRng l.length (fun k (_:Unit)=>((k:Nat):Int)) (fun k _=>∀ i (h:i<l.length),i<k→l[i]≠x) (fun y=>match y with | .inl i=>0≤i∧x∈l | .inr _=>x∉l) () rfl (fun i _ hi=>absurd hi (Nat.not_lt_zero _)) (fun k b hk hb => ?_) (fun b hb => ?_) (P:=fun i=>0≤i↔x∈l) (fun y hy => ?_)) (fun i hi=>Tot.some (by simpa using hi))
 ·unfold slices_Index_L0
  refine Tot.iteT (decide_eq_true (by omega)) (Tot.bindIdx k rfl hk (Tot.ite (fun h=>Tot.stop ⟨by omega,?_⟩) (fun h=>Tot.step () (wN (by omega)) fun i hi hik => ?_)))
  ·rw [(it_eq _ _).1 h];exact List.getElem_mem hk
  ·by_cases e:i=k
   ·subst e;intro e;rw [← e,(it_eq _ _).2 rfl] at h;cases h
   ·exact hb i hi (by omega)
 ·unfold slices_Index_L0
  refine Tot.iteF (decide_eq_false (by omega)) (Tot.last fun hx => ?_)
  obtain⟨k,hk,e⟩:=List.mem_iff_getElem.1 hx
  exact hb k hk hk e
 ·cases y with
  | inl i=>exact Tot.some ⟨fun _=>hy.2,fun _=>hy.1⟩
  | inr _=>exact Tot.some ⟨fun h=>by omega,fun h=>absurd h hy⟩
structure LdV (f:aFabric) (l:aLoad):Prop where
 a:0≤l.fA∧l.fA<f.fSwitches
 b:0≤l.fB∧l.fB<f.fSwitches
 r:0≤l.fRate∧l.fRate≤1073741824
def ItV (f:aFabric) (x:aItem):Prop:=0≤x.fIndex∧(x.fSwitch=true→x.fIndex<f.fSwitches)∧(x.fSwitch=false→x.fIndex<f.fLinks.length)
structure Vd (f:aFabric) (loads:List aLoad) (items:List aItem):Prop where
 fv:FV f
 ll:loads.length≤16
 il:items.length≤8
 l:∀ k,k<loads.length→∀ l,loads[k]? = some l→LdV f l
 i:∀ k,k<items.length→∀ x,items[k]? = some x→ItV f x∧x∉items.take k
theorem loads_L {f:aFabric} (a1:List aLoad) (hl:a1.length≤1000000):Tot (loop (drain_Valid_L0 f a1) (0:Int)) (fun x=>(x = .inr ()∧∀ k,k<a1.length→∀ l,a1[k]? = some l→LdV f l)∨(x = .inl ()∧¬ ∀ k,k<a1.length→∀ l,a1[k]? = some l→LdV f l)):=by
 refine allLoop _ (by omega) (fun k hk => ?_) ?_
 ·unfold drain_Valid_L0
  refine Tot.iteT (decide_eq_true (by omega)) (Tot.bindIdx k rfl hk (bad_or ?_))
  rw [List.getElem?_eq_getElem hk]
  simp only [Bool.or_eq_true,decide_eq_true_eq,Option.some.injEq]
  constructor
  ·intro h g
   have:=g _ rfl
   have h1:=this.a;have h2:=this.b;have h3:=this.r
   omega
  ·intro h
   refine Classical.byContradiction fun g=>h fun l e => ?_
   subst e
   exact⟨by omega,by omega,by omega⟩
 ·unfold drain_Valid_L0;rw [if_neg (by simp)]
theorem rloads_L {f:aFabric} (a1:List aLoad) (hl:a1.length≤1000000):Tot (loop (xref42_Valid_L0 f a1) (0:Int)) (fun x=>(x = .inr ()∧∀ k,k<a1.length→∀ l,a1[k]? = some l→LdV f l)∨(x = .inl ()∧¬ ∀ k,k<a1.length→∀ l,a1[k]? = some l→LdV f l)):=by
 refine allLoop _ (by omega) (fun k hk => ?_) ?_
 ·unfold xref42_Valid_L0
  refine Tot.iteT (decide_eq_true (by omega)) (Tot.bindIdx k rfl hk (bad_or ?_))
  rw [List.getElem?_eq_getElem hk]
  simp only [Bool.or_eq_true,decide_eq_true_eq,Option.some.injEq]
  constructor
  ·intro h g
   have:=g _ rfl
   have h1:=this.a;have h2:=this.b;have h3:=this.r
   omega
  ·intro h
   refine Classical.byContradiction fun g=>h fun l e => ?_
   subst e
   exact⟨by omega,by omega,by omega⟩
 ·unfold xref42_Valid_L0;rw [if_neg (by simp)]
theorem items_L {f:aFabric} (a2:List aItem) (hl:a2.length≤1000000):Tot (loop (drain_Valid_L1 f a2) (0:Int)) (fun x=>(x = .inr ()∧∀ k,k<a2.length→∀ x,a2[k]? = some x→ItV f x∧x∉a2.take k)∨(x = .inl ()∧¬ ∀ k,k<a2.length→∀ x,a2[k]? = some x→ItV f x∧x∉a2.take k)):=by
 refine allLoop _ (by omega) (fun k hk => ?_) ?_
 ·unfold drain_Valid_L1
  refine Tot.iteT (decide_eq_true (by omega)) (Tot.bindIdx k rfl hk (Tot.jnR (fun m:Int=>m=if a2[k].fSwitch=true then f.fSwitches else (f.fLinks.length:Int)) (fun j hj=>Tot.ite (fun h=>hj _ (by rw [if_pos h])) (fun h=>hj _ (by rw [if_neg (by simpa using h)]))) (fun m hm=>Tot.jnR (fun b:Bool=>b=true↔¬ ∀ x,a2[k]? = some x→ItV f x∧x∉a2.take k) (fun j hj=>Tot.ite (fun h=>hj _ ?_) (fun h=>Tot.chk ?_ (Tot.bindT (contains_tot _ ?_ _) fun b hb=>hj _ ?_))) (fun b hb=>bad_or hb))))
  ·refine⟨fun _ g => ?_,fun _=>rfl⟩
   obtain⟨⟨g1,g2,g3⟩,_⟩:=g _ (List.getElem?_eq_getElem hk)
   simp only [Bool.or_eq_true,decide_eq_true_eq] at h
   rw [hm] at h
   split at h
   ·have:=g2 (by assumption);omega
   ·have:=g3 (by simpa using (by assumption:¬ a2[k].fSwitch=true));omega
  ·simp;omega
  ·simp;omega
  ·simp only [Int.toNat_natCast,List.drop_zero] at hb
   rw [hb,List.getElem?_eq_getElem hk]
   have h:¬ (a2[k].fIndex<0∨m≤a2[k].fIndex):=fun g=>by
    have:((decide (a2[k].fIndex<(0:Int))) || (decide (m≤a2[k].fIndex)))=true:=by simpa using g
    rw [this] at h;cases h
   constructor
   ·intro g g'
    exact(g' _ rfl).2 g
   ·intro g
    refine Classical.byContradiction fun g'=>g fun x e => ?_
    cases e
    refine⟨⟨by omega,fun e => ?_,fun e => ?_⟩,g'⟩
    ·rw [hm,if_pos e] at h;omega
    ·rw [hm,if_neg (by rw [e];simp)] at h;omega
 ·unfold drain_Valid_L1;rw [if_neg (by simp)]
theorem ritems_L {f:aFabric} (a2:List aItem) (hl:a2.length≤1000000):Tot (loop (xref42_Valid_L1 f a2) (0:Int)) (fun x=>(x = .inr ()∧∀ k,k<a2.length→∀ x,a2[k]? = some x→ItV f x∧x∉a2.take k)∨(x = .inl ()∧¬ ∀ k,k<a2.length→∀ x,a2[k]? = some x→ItV f x∧x∉a2.take k)):=by
 refine allLoop _ (by omega) (fun k hk => ?_) ?_
 ·unfold xref42_Valid_L1
  refine Tot.iteT (decide_eq_true (by omega)) (Tot.bindIdx k rfl hk (Tot.jnR (fun b:Bool=>b=true↔¬ ItV f a2[k]) (fun j hj=>Tot.ite (fun h=>hj _ ?_) (fun h=>Tot.ite (fun h2=>hj _ ?_) (fun h2=>hj _ ?_))) (fun b hb=>Tot.ite (fun h=>Tot.some (.inl ⟨rfl,fun g => ?_⟩)) (fun h=>Tot.chk ?_ (Tot.bindT (allLoop (fun i=>∀ y,(a2.take k)[i]? = some y→a2[k]≠y) (by rw [List.length_take];omega:(a2.take k).length≤_) (fun i hi => ?_) ?_) fun x hx => ?_)))))
  ·exact⟨fun _ g=>by have:=g.1;have:=of_decide_eq_true h;omega,fun _=>rfl⟩
  ·refine⟨fun _ g => ?_,fun _=>rfl⟩
   simp only [Bool.and_eq_true,decide_eq_true_eq] at h2
   have:=g.2.1 h2.1;omega
  ·have h:¬ a2[k].fIndex<0:=of_decide_eq_false h
   simp only [Bool.and_eq_false_iff,decide_eq_false_iff_not] at h2
   simp only [Bool.and_eq_true,decide_eq_true_eq,Bool.not_eq_true']
   constructor
   ·intro g g'
    have:=g'.2.2 g.1;omega
   ·intro g
    refine Classical.byContradiction fun g'=>g ⟨by omega,fun e => ?_,fun e => ?_⟩
    ·rcases h2 with h2 | h2
     ·rw [e] at h2;cases h2
     ·omega
    ·exact Int.not_le.1 fun g2=>g' ⟨e,g2⟩
  ·exact hb.1 h (g _ (List.getElem?_eq_getElem hk)).1
  ·simp;omega
  ·unfold xref42_Valid_L2
   rw [Int.toNat_natCast,List.drop_zero]
   refine Tot.iteT (decide_eq_true (by omega)) (Tot.bindIdx i rfl hi (bad_or ?_))
   rw [it_eq,List.getElem?_eq_getElem hi]
   constructor
   ·intro e g;exact g _ rfl e
   ·intro g;exact Classical.byContradiction fun g'=>g fun y e=>by cases e;exact g'
  ·unfold xref42_Valid_L2
   rw [Int.toNat_natCast,List.drop_zero,if_neg (by simp)]
  ·have hI:ItV f a2[k]:=Classical.byContradiction fun g=>by rw [hb.2 g] at h;cases h
   rcases hx with ⟨rfl,hx⟩ | ⟨rfl,hx⟩
   ·refine Tot.some (.inr ⟨rfl,fun x e => ?_⟩)
    rw [List.getElem?_eq_getElem hk] at e
    cases e
    refine⟨hI,fun g => ?_⟩
    obtain⟨i,hi,e⟩:=List.mem_iff_getElem.1 g
    exact hx i hi _ (List.getElem?_eq_getElem hi) e.symm
   ·refine Tot.some (.inl ⟨rfl,fun g=>hx fun i hi y e e' => ?_⟩)
    exact(g _ (List.getElem?_eq_getElem hk)).2 (by rw [e'];exact List.mem_of_getElem? e)
 ·unfold xref42_Valid_L1;rw [if_neg (by simp)]
section
variable {f:aFabric} {loads:List aLoad} {items:List aItem} (h1:f.fLinks.length≤1000000) (h2:loads.length≤1000000) (h3:items.length≤1000000)
include h1 h2 h3
theorem valid_tot:Tot (drain_Valid f loads items) (fun b=>b=true↔Vd f loads items):=by
 unfold drain_Valid
 refine Tot.bindT (fvalid_tot h1) fun b hb=>Tot.ite (fun h=>Tot.some ⟨(fun g=>by cases g),fun g => ?_⟩) (fun h=>Tot.bindT (loads_L loads h2) fun x hx => ?_)
 ·have:=hb.2 g.fv;subst this
  have:=g.ll;have:=g.il
  simp at h;omega
 ·have h:b=true∧loads.length≤16∧items.length≤8:=by simp at h;exact⟨h.1.1,by omega,by omega⟩
  rcases hx with ⟨rfl,hx⟩ | ⟨rfl,hx⟩
  ·refine Tot.bindT (items_L items h3) fun y hy => ?_
   rcases hy with ⟨rfl,hy⟩ | ⟨rfl,hy⟩
   ·exact Tot.some ⟨fun _=>⟨hb.1 h.1,h.2.1,h.2.2,hx,hy⟩,fun _=>rfl⟩
   ·exact Tot.some ⟨(fun g=>by cases g),fun g=>absurd g.i hy⟩
  ·exact Tot.some ⟨(fun g=>by cases g),fun g=>absurd g.l hx⟩
theorem rvalid42_tot:Tot (xref42_Valid f loads items) (fun b=>b=true↔Vd f loads items):=by
 unfold xref42_Valid
 refine Tot.bindT (rvalid_tot h1) fun b hb=>Tot.ite (fun h=>Tot.some ⟨(fun g=>by cases g),fun g => ?_⟩) (fun h=>Tot.bindT (rloads_L loads h2) fun x hx => ?_)
 ·have:=hb.2 g.fv;subst this
  have:=g.ll;have:=g.il
  simp at h;omega
 ·have h:b=true∧loads.length≤16∧items.length≤8:=by simp at h;exact⟨h.1.1,by omega,by omega⟩
  rcases hx with ⟨rfl,hx⟩ | ⟨rfl,hx⟩
  ·refine Tot.bindT (ritems_L items h3) fun y hy => ?_
   rcases hy with ⟨rfl,hy⟩ | ⟨rfl,hy⟩
   ·exact Tot.some ⟨fun _=>⟨hb.1 h.1,h.2.1,h.2.2,hx,hy⟩,fun _=>rfl⟩
   ·exact Tot.some ⟨(fun g=>by cases g),fun g=>absurd g.i hy⟩
  ·exact Tot.some ⟨(fun g=>by cases g),fun g=>absurd g.l hx⟩
end
def woK (f:aFabric) (items:List aItem):Nat→List Bool×List Bool
 | 0=>(f.fDead,f.fDown)
 | k+1=>match items[k]? with
  | none=>woK f items k
  | some x=>if x.fSwitch=true then ((woK f items k).1.set x.fIndex.toNat true,(woK f items k).2) else ((woK f items k).1,(woK f items k).2.set x.fIndex.toNat true)
def woF (f:aFabric) (items:List aItem):aFabric:=⟨f.fSwitches,f.fLinks,(woK f items items.length).2,(woK f items items.length).1⟩
theorem woK_len (f:aFabric) (items:List aItem):∀ k,(woK f items k).1.length=f.fDead.length∧(woK f items k).2.length=f.fDown.length
 | 0=>⟨rfl,rfl⟩
 | k+1=>by
  have h:=woK_len f items k
  unfold woK
  split
  ·exact h
  ·split
   ·exact⟨by rw [List.length_set];exact h.1,h.2⟩
   ·exact⟨h.1,by rw [List.length_set];exact h.2⟩
theorem woF_ok {f:aFabric} (hf:FV f) (items:List aItem):FV (woF f items):=by
 have h:=woK_len f items items.length
 refine⟨hf.s,hf.l,?_,?_,hf.lk⟩
 ·show(woK f items items.length).2.length=f.fLinks.length
  rw [h.2];exact hf.dn
 ·show((woK f items items.length).1.length:Int)=f.fSwitches
  rw [h.1];exact hf.dd
theorem woK_succ {f:aFabric} {items:List aItem} {k:Nat} (hk:k<items.length):woK f items (k+1)=if items[k].fSwitch=true then ((woK f items k).1.set items[k].fIndex.toNat true,(woK f items k).2) else ((woK f items k).1,(woK f items k).2.set items[k].fIndex.toNat true):=by
 rw [woK,List.getElem?_eq_getElem hk]
section
variable {f:aFabric} (hf:FV f) {items:List aItem} (hi:items.length≤1000000) (hv:∀ x∈items,ItV f x)
include hf hi hv
theorem without_eq:drain_Without f items=some (woF f items):=by
 refine Tot.eq ?_
 have hs:=hf.s;have hl:=hf.l;have hdn:=hf.dn;have hdd:=hf.dd
 unfold drain_Without clone_Fabric_3 clone_List clone_List_3
 refine Tot.bindOf (x:=f) ?_ ?_
 ·refine Tot.eq (Tot.bindT (Tot.chk (limB (by omega)) (Tot.some (P:=fun x=>x=f.fLinks) rfl)) fun x hx=>Tot.bindT (Tot.chk (limB (by omega)) (Tot.some (P:=fun x=>x=f.fDown) rfl)) fun y hy=>Tot.bindT (Tot.chk (limB (by omega)) (Tot.some (P:=fun x=>x=f.fDead) rfl)) fun z hz=>Tot.some ?_)
  subst hx;subst hy;subst hz;rfl
 refine Tot.bindRng items.length (fun k (b:List Bool×List Bool)=>(((k:Nat):Int),b.1,b.2)) (fun k b=>b=woK f items k) (fun x=>x=woK f items items.length) (f.fDead,f.fDown) rfl rfl (fun k b hk hb => ?_) (fun b hb => ?_) (fun x hx=>by subst hx;exact Tot.some rfl)
 ·subst hb
  have hlen:=woK_len f items k
  have hI:=hv _ (List.getElem_mem hk)
  have hsc:=woK_succ (f:=f) hk
  unfold drain_Without_L0
  refine Tot.iteT (decide_eq_true (by simp only;omega)) (Tot.bindIdx k rfl hk (Tot.ite (fun h => ?_) (fun h => ?_)))
  ·have h1:=hI.2.1 h
   rw [if_pos h] at hsc
   have hb:items[k].fIndex.toNat<(woK f items k).1.length:=by rw [hlen.1];omega
   refine Tot.jnR (fun m:List Bool=>m=(woK f items k).1.set items[k].fIndex.toNat true) (fun j hj=>Tot.iteT (by have:=hI.1;simp;omega) (Tot.bindIdx _ (by rw [Int.toNat_of_nonneg hI.1]) hb (Tot.bindIdx _ (by rw [Int.toNat_of_nonneg hI.1]) hb (hj _ rfl)))) (fun m hm=>Tot.step (m,(woK f items k).2) (by rw [wN (by omega)]) ?_)
   rw [hsc,hm]
  ·have h1:=hI.2.2 h
   rw [if_neg (by rw [h];simp)] at hsc
   have hb:items[k].fIndex.toNat<(woK f items k).2.length:=by have:=hI.1;rw [hlen.2];omega
   refine Tot.jnR (fun m:List Bool=>m=(woK f items k).2.set items[k].fIndex.toNat true) (fun j hj=>Tot.iteT (by have:=hI.1;simp;omega) (Tot.bindIdx _ (by rw [Int.toNat_of_nonneg hI.1]) hb (Tot.bindIdx _ (by rw [Int.toNat_of_nonneg hI.1]) hb (hj _ rfl)))) (fun m hm=>Tot.step ((woK f items k).1,m) (by rw [wN (by omega)]) ?_)
   rw [hsc,hm]
 ·subst hb
  unfold drain_Without_L0
  exact Tot.iteF (decide_eq_false (by simp only;omega)) (Tot.last rfl)
theorem rwithout_eq:xref42_Without f items=some (woF f items):=by
 refine Tot.eq ?_
 have hs:=hf.s;have hl:=hf.l;have hdn:=hf.dn;have hdd:=hf.dd
 unfold xref42_Without xref42_Copy_3
 refine Tot.bindT (Tot.chk (limB (by omega)) (Tot.chk (limB (by omega)) (Tot.chk (limB (by omega)) (Tot.some (P:=fun x=>x=f) rfl)))) fun y hy => ?_
 subst hy
 refine Tot.bindRng items.length (fun k (b:List Bool×List Bool)=>(((k:Nat):Int),b.1,b.2)) (fun k b=>b=woK y items k) (fun x=>x=woK y items items.length) (y.fDead,y.fDown) rfl rfl (fun k b hk hb => ?_) (fun b hb => ?_) (fun x hx=>by subst hx;exact Tot.some rfl)
 ·subst hb
  have hlen:=woK_len y items k
  have hI:=hv _ (List.getElem_mem hk)
  have hsc:=woK_succ (f:=y) hk
  unfold xref42_Without_L0
  refine Tot.iteT (decide_eq_true (by simp only;omega)) (Tot.bindIdx k rfl hk (Tot.jnR (fun m:List Bool×List Bool=>m=woK y items (k+1)) (fun j hj=>Tot.ite (fun h => ?_) (fun h => ?_)) (fun m hm=>Tot.step m (by rw [wN (by omega)]) hm)))
  ·have h1:=hI.2.1 h
   rw [if_pos h] at hsc
   have hb:items[k].fIndex.toNat<(woK y items k).1.length:=by rw [hlen.1];omega
   exact Tot.bindIdx _ (by rw [Int.toNat_of_nonneg hI.1]) hb (Tot.bindIdx _ (by rw [Int.toNat_of_nonneg hI.1]) hb (hj _ hsc.symm))
  ·have h1:=hI.2.2 h
   rw [if_neg (by rw [h];simp)] at hsc
   have hb:items[k].fIndex.toNat<(woK y items k).2.length:=by have:=hI.1;rw [hlen.2];omega
   exact Tot.bindIdx _ (by rw [Int.toNat_of_nonneg hI.1]) hb (Tot.bindIdx _ (by rw [Int.toNat_of_nonneg hI.1]) hb (hj _ hsc.symm))
 ·subst hb
  unfold xref42_Without_L0
  exact Tot.iteF (decide_eq_false (by simp only;omega)) (Tot.last rfl)
end
structure Ord' (o:List Int) (n:Nat):Prop where
 r:∀ x∈o,0≤x∧x<n
 nd:o.Nodup
 l:o.length=n
theorem in_all {o:List Int} {n:Nat} (h:Ord' o n):∀ j:Nat,j<n→(j:Int)∈o:=by
 intro j hj
 refine Classical.byContradiction fun g => ?_
 have key:∀ (n:Nat) (l:List Int),l.Nodup→(∀ x∈l,0≤x∧x<(n:Int))→l.length≤n:=by
  intro n
  induction n with
  | zero =>
   intro l _ hr;match l,hr with
   | [],_=>exact Nat.le_refl _
   | x :: _,hr=>have:=hr x (List.mem_cons_self ..);omega
  | succ n ih =>
   intro l hn hr
   have h1:=ih (l.filter fun x=>decide (x≠(n:Int))) (hn.filter _) (fun x hx=>by
    have:=List.mem_filter.1 hx
    have:=hr x this.1
    have:=of_decide_eq_true (List.mem_filter.1 hx).2
    omega)
   have h2:l.length=(l.filter fun x=>decide (x≠(n:Int))).length+l.count (n:Int):=by
    rw [← List.countP_eq_length_filter,List.count,Nat.add_comm]
    have:=List.length_eq_countP_add_countP (p:=fun x:Int=>x==(n:Int)) (l:=l)
    rw [this]
    congr 1
    refine List.countP_congr fun x _ => ?_
    by_cases e:x=(n:Int)
    ·subst e;simp
    ·simp [e]
   have h3:l.count (n:Int)≤1:=List.nodup_iff_count.1 hn _
   omega
 have:=key n ((j:Int) :: o) (List.nodup_cons.2 ⟨g,h.nd⟩) (fun x hx=>by
  rcases List.mem_cons.1 hx with hx | hx
  ·omega
  ·exact h.r x hx)
 rw [List.length_cons,h.l] at this
 omega
theorem ordered_tot (o:List Int) (n:Nat) (hl:o.length≤1000000) (hn:n≤1000000):Tot (xref43_ordered o (n:Int)) (fun b=>b=true↔Ord' o n):=by
 unfold xref43_ordered
 refine Tot.chk (mk_ok (by omega) (by omega)) (Tot.bindRng o.length (fun k (b:List Bool)=>(((k:Nat):Int),b)) (fun k b=>b.length=n∧(∀ x∈o.take k,0≤x∧x<n)∧(o.take k).Nodup∧∀ j:Nat,(h:j<b.length)→(b[j]=true↔(j:Int)∈o.take k)) (fun x=>match x with | .inl _=>¬ ((∀ x∈o,0≤x∧x<n)∧o.Nodup) | .inr _=>(∀ x∈o,0≤x∧x<n)∧o.Nodup) (List.replicate n false) (by simp) ⟨by simp,by simp,by simp,by simp⟩ (fun k b hk hb => ?_) (fun b hb => ?_) (fun x hx => ?_))
 ·obtain⟨h1,h2,h3,h4⟩:=hb
  have ht:=take_snoc hk
  unfold xref43_ordered_L0
  refine Tot.iteT (decide_eq_true (by simp only;omega)) (Tot.bindIdx k rfl hk (Tot.jnR (fun m:Bool=>(m=false∧(0≤o[k]∧o[k]<n)∧o[k]∉o.take k)∨(m=true∧¬ ((0≤o[k]∧o[k]<n)∧o[k]∉o.take k))) (fun j hj=>Tot.ite (fun h=>hj _ (.inr ⟨rfl,fun g => ?_⟩)) (fun h => ?_)) (fun m hm=>Tot.ite (fun h=>Tot.stop ?_) (fun h => ?_))))
  ·simp at h;omega
  ·have hr:0≤o[k]∧o[k]<n:=by simp at h;exact h
   have hb:o[k].toNat<b.length:=by omega
   refine Tot.bindIdx _ (Int.toNat_of_nonneg hr.1).symm hb (Tot.bindIdx _ (Int.toNat_of_nonneg hr.1).symm hb (hj _ ?_))
   have:=h4 _ hb
   rw [Int.toNat_of_nonneg hr.1] at this
   cases e:b[o[k].toNat] with
   | true=>exact .inr ⟨rfl,fun g=>g.2 (this.1 e)⟩
   | false=>exact .inl ⟨rfl,hr,fun g=>by rw [this.2 g] at e;cases e⟩
  ·rcases hm with ⟨rfl,_⟩ | ⟨_,g⟩
   ·cases h
   ·intro g'
    refine g ⟨g'.1 _ (List.getElem_mem hk),fun hc => ?_⟩
    have:(o.take (k+1)).Nodup:=g'.2.sublist (List.take_sublist ..)
    rw [ht] at this
    exact(List.pairwise_append.1 this).2.2 _ hc _ (List.mem_singleton_self _) rfl
  ·rcases hm with ⟨_,hr,hnm⟩ | ⟨rfl,_⟩
   ·have hb:o[k].toNat<b.length:=by omega
    refine Tot.bindIdx _ (Int.toNat_of_nonneg hr.1).symm hb (Tot.bindIdx _ (Int.toNat_of_nonneg hr.1).symm hb (Tot.step _ (by rw [wN (by omega)]) ⟨by rw [List.length_set];exact h1,fun x hx => ?_,?_,fun j hj => ?_⟩))
    ·rw [ht] at hx
     rcases List.mem_append.1 hx with hx | hx
     ·exact h2 x hx
     ·rw [List.mem_singleton.1 hx];exact hr
    ·rw [ht]
     refine List.pairwise_append.2 ⟨h3,List.pairwise_singleton ..,fun a ha c hc => ?_⟩
     rw [List.mem_singleton.1 hc]
     intro e;exact hnm (by rw [← e];exact ha)
    ·rw [ht,List.mem_append,List.mem_singleton,List.getElem_set]
     rw [List.length_set] at hj
     split
     ·rename_i e
      exact⟨fun _ => .inr (by omega),fun _=>rfl⟩
     ·rename_i e
      rw [h4 j hj]
      exact⟨.inl,fun g=>g.elim id fun g=>absurd g (by omega)⟩
   ·cases h
 ·obtain⟨h1,h2,h3,h4⟩:=hb
  rw [List.take_length] at h2 h3
  unfold xref43_ordered_L0
  exact Tot.iteF (decide_eq_false (by simp only;omega)) (Tot.last ⟨h2,h3⟩)
 ·cases x with
  | inl _=>exact Tot.some ⟨(fun g=>by cases g),fun g=>absurd ⟨g.r,g.nd⟩ hx⟩
  | inr _=>exact Tot.some ⟨fun g=>⟨hx.1,hx.2,by have:=eq_of_beq g;omega⟩,fun g=>beq_iff_eq.2 (by rw [g.l])⟩
theorem permitted_tot (a0:List aLoad) (o:List Int) (hl:o.length≤1000000) (hn:a0.length≤1000000):Tot (plan_permitted a0 o) (fun b=>b=true↔Ord' o a0.length):=by
 unfold plan_permitted
 refine Tot.ite (fun h=>Tot.some ⟨(fun g=>by cases g),fun g => ?_⟩) (fun h => ?_)
 ·rw [g.l] at h;simp at h
 have hlen:o.length=a0.length:=by
  have:¬ ((o.length:Int) != (a0.length:Int))=true:=by rw [h];simp
  simp at this;omega
 refine Tot.bindOf (x:=o) rfl ?_
 unfold ext55_slices_Sorted
 refine Tot.bindT (Tot.chk (limB (by omega)) (Tot.some (P:=fun r=>r=srt o) rfl)) fun r hr => ?_
 subst hr
 have hsl:=srt_len o
 refine Tot.bindT (allLoop (fun k=>∀ x,(srt o)[k]? = some x→x=k) (by omega:(srt o).length≤_) (fun k hk => ?_) ?_) fun x hx => ?_
 ·unfold plan_permitted_L0
  refine Tot.iteT (decide_eq_true (by omega)) (Tot.bindIdx k rfl hk (bad_or ?_))
  rw [List.getElem?_eq_getElem hk,bne_iff_ne]
  exact⟨fun g g'=>g (g' _ rfl),fun g e=>g fun x e'=>by cases e';exact e⟩
 ·unfold plan_permitted_L0;rw [if_neg (by simp)]
 ·have hm:∀ x,x∈srt o↔x∈o:=fun x=>(srt_perm o).mem_iff
  rcases hx with ⟨rfl,hx⟩ | ⟨rfl,hx⟩
  ·refine Tot.some ⟨fun _=>⟨fun x hx' => ?_,?_,hlen⟩,fun _=>rfl⟩
   ·obtain⟨k,hk,e⟩:=List.mem_iff_getElem.1 ((hm x).2 hx')
    have:=hx k hk x (by rw [List.getElem?_eq_getElem hk,e])
    omega
   ·refine(srt_perm o).nodup_iff.1 ?_
    refine List.pairwise_iff_getElem.2 fun i j hi hj hij e => ?_
    have h1:=hx i hi _ (List.getElem?_eq_getElem hi)
    have h2:=hx j hj _ (List.getElem?_eq_getElem hj)
    omega
  ·refine Tot.some ⟨(fun g=>by cases g),fun g=>absurd (fun k hk x e => ?_) hx⟩
   have hnd:(srt o).Nodup:=(srt_perm o).nodup_iff.2 g.nd
   have hst:(srt o).Pairwise (· < ·):=by
    have h1:=srt_sorted o
    refine(List.Pairwise.and h1 hnd).imp fun {a b} h => ?_
    have:=h.1;have:=h.2;omega
   have hrg:((List.range a0.length).map fun i:Nat=>(i:Int)).Pairwise (· < ·):=by
    refine List.pairwise_map.2 (List.pairwise_lt_range.imp fun h => ?_)
    omega
   have:srt o=(List.range a0.length).map fun i:Nat=>(i:Int):=by
    refine sorted_unique (fun x y h=>by omega) hst hrg fun x => ?_
    rw [hm,List.mem_map]
    constructor
    ·intro hx
     have:=g.r x hx
     exact⟨x.toNat,List.mem_range.2 (by omega),by omega⟩
    ·rintro⟨i,hi,rfl⟩
     exact in_all g i (List.mem_range.1 hi)
   rw [this] at e
   have hk':k<a0.length:=by omega
   simp [hk'] at e
   omega
def ct (w:List Int) (r:Int) (j:Int):Nat→Int
 | 0=>0
 | k+1=>ct w r j k+(if w[k]? = some j then r else 0)
theorem ct_bd (w:List Int) {r:Int} (hr:-1073741824≤r∧r≤1073741824) (j:Int):∀ k:Nat,-1073741824*(k:Int)≤ct w r j k∧ct w r j k≤1073741824*(k:Int)
 | 0=>by simp [ct]
 | k+1=>by have:=ct_bd w hr j k;unfold ct;split<;>omega
theorem ct_pos (w:List Int) {r:Int} (hr:0≤r) (j:Int):∀ k:Nat,0≤ct w r j k
 | 0=>Int.le_refl _
 | k+1=>by have:=ct_pos w hr j k;unfold ct;split<;>omega
theorem ct_neg (w:List Int) (r j:Int):∀ k:Nat,ct w (-r) j k = - ct w r j k
 | 0=>rfl
 | k+1=>by have:=ct_neg w r j k;unfold ct;split<;>omega
theorem addLoop {tb:Int×List Int→Option (List Int⊕(Int×List Int))} (w:List Int) (r:Int) (s0:List Int) (L:Nat) (hw:∀ x∈w,0≤x∧x<L) (hwl:w.length≤8) (hr:-1073741824≤r∧r≤1073741824) (hl:s0.length=L)
  (hs:∀ j:Int,0≤j→j<L → -1099511627776≤gt s0 j∧gt s0 j≤1099511627776)
  (htb:∀ k (hk:k<w.length) (s:List Int),s.length=L→Tot (tb ((k:Int),s)) (fun y=>y = .inr (w64 ((k:Int)+1),s.set w[k].toNat (w64 (gt s w[k]+r))))) (he:∀ s,tb ((w.length:Int),s)=some (.inl s)) :
  Tot (loop tb ((0:Int),s0)) (fun s=>s.length=L∧∀ j:Int,0≤j→j<L→gt s j=gt s0 j+ct w r j w.length):=by
 refine Tot.rng w.length (fun k (s:List Int)=>(((k:Nat):Int),s)) (fun k s=>s.length=L∧∀ j:Int,0≤j→j<L→gt s j=gt s0 j+ct w r j k) _ s0 rfl ⟨hl,fun j _ _=>by simp [ct]⟩ (fun k s hk hb => ?_) (fun s hb=>⟨_,he s,hb⟩)
 refine(htb k hk s hb.1).mono fun y hy => ?_
 subst hy
 have hr':=hw _ (List.getElem_mem hk)
 have hrl:0≤w[k]∧w[k]<s.length:=by rw [hb.1];exact hr'
 refine⟨_,by rw [wN (by omega)],by rw [List.length_set];exact hb.1,fun j h0 h1 => ?_⟩
 have h2:=hb.2 w[k] hr'.1 hr'.2
 have h3:=hs w[k] hr'.1 hr'.2
 have h4:=ct_bd w hr w[k] k
 rw [gt_set hrl h0,w64_id (by omega) (by omega)]
 unfold ct
 rw [List.getElem?_eq_getElem hk]
 by_cases e:j=w[k]
 ·subst e;rw [if_pos rfl,if_pos rfl,h2];omega
 ·rw [if_neg e,if_neg (fun g=>e (Option.some.inj g).symm),hb.2 j h0 h1];omega
noncomputable def wy (g:aFabric) (loads:List aLoad) (i:Nat):List Int×Bool:=match loads[i]? with
 | some l=>(forward_Way g l.fA l.fB (i:Int)).getD ([],false)
 | none=>([],false)
def rt (loads:List aLoad) (i:Nat):Int:=match loads[i]? with
 | some l=>l.fRate
 | none=>0
noncomputable def sm (g:aFabric) (loads:List aLoad) (gone:List Bool) (j:Int):Nat→Int
 | 0=>0
 | n+1=>sm g loads gone j n+(if gone.getD n false=true then 0 else ct (wy g loads n).1 (rt loads n) j (wy g loads n).1.length)
open Classical in
noncomputable def ovF (g:aFabric) (loads:List aLoad) (gone:List Bool):Bool:=decide (¬ ∀ k,k<g.fLinks.length→∀ l,g.fLinks[k]? = some l→¬ 1000*l.fCapacity<sm g loads gone (k:Int) loads.length)
noncomputable def goF (g:aFabric) (loads:List aLoad):List Int→List Bool→List Bool
 | [],gone=>gone
 | i :: rest,gone=>if ovF g loads gone=true then goF g loads rest (gone.set i.toNat true) else gone
theorem goF_stop {g:aFabric} {loads:List aLoad} {gone:List Bool} (h:ovF g loads gone=false):∀ l,goF g loads l gone=gone
 | []=>rfl
 | i :: rest=>by unfold goF;rw [h];rfl
def lsK (gone:List Bool):Nat→List Int
 | 0=>[]
 | k+1=>if gone[k]? = some true then lsK gone k++[(k:Int)] else lsK gone k
theorem lsK_le (gone:List Bool):∀ k,(lsK gone k).length≤k
 | 0=>Nat.le_refl _
 | k+1=>by have:=lsK_le gone k;unfold lsK;split<;>(try rw [List.length_append];simp only [List.length_singleton])<;>omega
noncomputable def gone0 (g:aFabric) (loads:List aLoad):List Bool:=(List.range loads.length).map fun i => !(wy g loads i).2
theorem wy_eq {g:aFabric} (hg:FV g) {loads:List aLoad} (_hll:loads.length≤16) (hld:∀ k,k<loads.length→∀ l,loads[k]? = some l→LdV g l) {i:Nat} (hi:i<loads.length):forward_Way g loads[i].fA loads[i].fB (i:Int)=some (wy g loads i)∧xref14_Way g loads[i].fA loads[i].fB (i:Int)=some (wy g loads i)∧WayOk g (wy g loads i):=by
 have hv:=hld i hi _ (List.getElem?_eq_getElem hi)
 obtain⟨w,h1,h2,h3⟩:=way_ex hg hv.a hv.b i
 have:wy g loads i=w:=by unfold wy;rw [List.getElem?_eq_getElem hi];dsimp only;rw [h1];rfl
 rw [this];exact⟨h1,h2,h3⟩
theorem rt_ok {g:aFabric} (_hg:FV g) {loads:List aLoad} (_hll:loads.length≤16) (hld:∀ k,k<loads.length→∀ l,loads[k]? = some l→LdV g l) {i:Nat} (hi:i<loads.length):rt loads i=loads[i].fRate∧0≤rt loads i∧rt loads i≤1073741824:=by
 have hv:=hld i hi _ (List.getElem?_eq_getElem hi)
 have:rt loads i=loads[i].fRate:=by unfold rt;rw [List.getElem?_eq_getElem hi]
 rw [this];exact⟨rfl,hv.r⟩
theorem sm_bd {g:aFabric} (hg:FV g) {loads:List aLoad} (hll:loads.length≤16) (hld:∀ k,k<loads.length→∀ l,loads[k]? = some l→LdV g l) (gone:List Bool) (j:Int):∀ n:Nat,n≤loads.length→0≤sm g loads gone j n∧sm g loads gone j n≤8589934592*(n:Int)
 | 0,_=>by simp [sm]
 | n+1,hn=>by
  have:=sm_bd hg hll hld gone j n (by omega)
  have hr:=rt_ok hg hll hld (by omega:n<loads.length)
  have hw:=(wy_eq hg hll hld (by omega:n<loads.length)).2.2.l
  have h1:=ct_bd (wy g loads n).1 (r:=rt loads n) ⟨by omega,by omega⟩ j (wy g loads n).1.length
  have h2:=ct_pos (wy g loads n).1 hr.2.1 j (wy g loads n).1.length
  unfold sm
  split<;>omega
theorem sm_set {g:aFabric} (_hg:FV g) {loads:List aLoad} (_hll:loads.length≤16) (_hld:∀ k,k<loads.length→∀ l,loads[k]? = some l→LdV g l) {gone:List Bool} {i:Nat} (hi:i<loads.length) (hi':i<gone.length) (hgi:gone[i]=false) (j:Int):∀ n:Nat,sm g loads (gone.set i true) j n=sm g loads gone j n-(if i<n then ct (wy g loads i).1 (rt loads i) j (wy g loads i).1.length else 0)
 | 0=>by simp [sm]
 | n+1=>by
  have:=sm_set _hg _hll _hld hi hi' hgi j n
  unfold sm
  rw [this]
  simp only [List.getD_eq_getElem?_getD]
  by_cases e:i=n
  ·subst e
   rw [List.getElem?_set_self hi',List.getElem?_eq_getElem hi',hgi,if_neg (Nat.lt_irrefl _),if_pos (by omega:i<i+1)]
   simp
  ·rw [List.getElem?_set_ne e]
   by_cases h:i<n
   ·rw [if_pos h,if_pos (by omega:i<n+1)];omega
   ·rw [if_neg h,if_neg (by omega:¬ i<n+1)];omega
def Sums (g:aFabric) (loads:List aLoad) (gone:List Bool) (n:Nat) (s:List Int):Prop:=s.length=g.fLinks.length∧∀ j:Int,0≤j→j<g.fLinks.length→gt s j=sm g loads gone j n
theorem fits_tot {g:aFabric} (hg:FV g) {loads:List aLoad} (_hll:loads.length≤16) (_hld:∀ k,k<loads.length→∀ l,loads[k]? = some l→LdV g l) (f:aFabric) (hfl:f.fLinks=g.fLinks) {gone:List Bool} {s:List Int} (hs:Sums g loads gone loads.length s):plan_Shed_1 s f=some (!ovF g loads gone,s):=by
 refine Tot.eq ?_
 have hl:=hg.l
 unfold plan_Shed_1
 refine Tot.bindT (allLoop (fun k=>∀ l,g.fLinks[k]? = some l→¬ 1000*l.fCapacity<sm g loads gone (k:Int) loads.length) (by have:=hs.1;omega:s.length≤_) (fun k hk => ?_) ?_) fun x hx => ?_
 ·have hk':k<g.fLinks.length:=by rw [← hs.1];exact hk
  have hk2:k<f.fLinks.length:=by rw [hfl];exact hk'
  have hv:=hg.lk _ (List.getElem_mem hk')
  have hv:=hv.c
  have he:f.fLinks[k]=g.fLinks[k]:=by simp [hfl]
  have hsk:s[k]=sm g loads gone (k:Int) loads.length:=by rw [← hs.2 (k:Int) (by omega) (by omega),gt_get hk]
  unfold plan_Shed_1_L0
  refine Tot.iteT (decide_eq_true (by omega)) (Tot.bindIdx k rfl hk (Tot.bindIdx k rfl hk (Tot.bindIdx k rfl hk2 (bad_or ?_))))
  rw [he,hsk,w64_id (by omega) (by omega),decide_eq_true_eq,List.getElem?_eq_getElem hk']
  exact⟨fun h g=>g _ rfl h,fun h=>Classical.byContradiction fun g=>h fun l e=>by cases e;exact g⟩
 ·unfold plan_Shed_1_L0;rw [if_neg (by simp)]
 ·rw [hs.1] at hx
  rcases hx with ⟨rfl,hx⟩ | ⟨rfl,hx⟩
  ·refine Tot.some ?_
   unfold ovF;rw [decide_eq_false (fun g=>g hx)];rfl
  ·refine Tot.some ?_
   unfold ovF;rw [decide_eq_true hx];rfl
theorem over_eq {g:aFabric} (hg:FV g) {loads:List aLoad} (hll:loads.length≤16) (hld:∀ k,k<loads.length→∀ l,loads[k]? = some l→LdV g l) {gone:List Bool} (hgl:gone.length=loads.length):xref43_over_2 g loads gone=some (ovF g loads gone):=by
 refine Tot.eq ?_
 have hl:=hg.l
 unfold xref43_over_2
 refine Tot.chk (mk_ok (by omega) (by omega)) (Tot.bindRng loads.length (fun k (s:List Int)=>(((k:Nat):Int),s)) (fun k s=>Sums g loads gone k s) (fun s=>Sums g loads gone loads.length s) _ rfl ⟨by simp,fun j h0 h1 => ?_⟩ (fun k s hk hb => ?_) (fun s hb => ?_) (fun s hs => ?_))
 ·have hj:j.toNat<(List.replicate (g.fLinks.length:Int).toNat (0:Int)).length:=by simp;omega
  have:=gt_get hj
  rw [Int.toNat_of_nonneg h0] at this
  rw [this];simp [sm]
 ·have hkg:k<gone.length:=by rw [hgl];exact hk
  obtain⟨_,hw,hok⟩:=wy_eq hg hll hld hk
  have hr:=rt_ok hg hll hld hk
  unfold xref43_over_2_L0
  refine Tot.iteT (decide_eq_true (by simp only;omega)) (Tot.jnR (fun m:List Int=>Sums g loads gone (k+1) m) (fun j hj=>Tot.bindIdx k rfl hk (Tot.bindIdx k rfl hkg (Tot.bindIdx k rfl hkg (Tot.ite (fun h=>hj _ ⟨hb.1,fun j h0 h1 => ?_⟩) (fun h=>Tot.bindOf hw (Tot.bindT (addLoop (wy g loads k).1 (rt loads k) s g.fLinks.length hok.k hok.l ⟨by omega,by omega⟩ hb.1 (fun j h0 h1 => ?_) (fun i hi s hs => ?_) (fun s => ?_)) fun x hx=>hj _ ⟨hx.1,fun j h0 h1 => ?_⟩)))))) (fun m hm=>Tot.step m (by rw [wN (by omega)]) hm))
  ·unfold sm
   rw [List.getD_eq_getElem?_getD,List.getElem?_eq_getElem hkg,h]
   simp;exact hb.2 j h0 h1
  ·have:=sm_bd hg hll hld gone j k (by omega)
   rw [hb.2 j h0 h1];omega
  ·unfold xref43_over_2_L1
   have hrr:=hok.k _ (List.getElem_mem hi)
   have hrl:0≤(wy g loads k).1[i]∧(wy g loads k).1[i]<s.length:=by rw [hs];exact hrr
   refine Tot.iteT (decide_eq_true (by simp only;omega)) (Tot.bindIdx i rfl hi (bindGt hrl (bindGt hrl (bindGt hrl (bindGt hrl (Tot.some ?_))))))
   rw [hr.1]
  ·unfold xref43_over_2_L1;rw [if_neg (by simp)]
  ·rw [hx.2 j h0 h1,hb.2 j h0 h1]
   show _=sm g loads gone j k+_
   rw [List.getD_eq_getElem?_getD,List.getElem?_eq_getElem hkg,h]
   rfl
 ·unfold xref43_over_2_L0
  exact Tot.iteF (decide_eq_false (by simp only;omega)) (Tot.last hb)
 ·refine Tot.bindT (allLoop (fun k=>∀ l,g.fLinks[k]? = some l→¬ 1000*l.fCapacity<sm g loads gone (k:Int) loads.length) (by have:=hs.1;omega:s.length≤_) (fun k hk => ?_) ?_) fun x hx => ?_
  ·have hk':k<g.fLinks.length:=by rw [← hs.1];exact hk
   have hv:=hg.lk _ (List.getElem_mem hk')
   have hv:=hv.c
   have hsk:s[k]=sm g loads gone (k:Int) loads.length:=by rw [← hs.2 (k:Int) (by omega) (by omega),gt_get hk]
   unfold xref43_over_2_L2
   refine Tot.iteT (decide_eq_true (by omega)) (Tot.bindIdx k rfl hk (Tot.bindIdx k rfl hk (Tot.bindIdx k rfl hk' (bad_or ?_))))
   rw [hsk,w64_id (by omega) (by omega),decide_eq_true_eq,List.getElem?_eq_getElem hk']
   exact⟨fun h g=>g _ rfl h,fun h=>Classical.byContradiction fun g=>h fun l e=>by cases e;exact g⟩
  ·unfold xref43_over_2_L2;rw [if_neg (by simp)]
  ·rw [hs.1] at hx
   rcases hx with ⟨rfl,hx⟩ | ⟨rfl,hx⟩
   ·refine Tot.some ?_
    unfold ovF;rw [decide_eq_false (fun g=>g hx)]
   ·refine Tot.some ?_
    unfold ovF;rw [decide_eq_true hx]
theorem gone0_len (g:aFabric) (loads:List aLoad):(gone0 g loads).length=loads.length:=by simp [gone0]
theorem gone0_get (g:aFabric) (loads:List aLoad) {i:Nat} (hi:i<loads.length):(gone0 g loads)[i]? = some (!(wy g loads i).2):=by simp [gone0,hi]
theorem goF_len (g:aFabric) (loads:List aLoad):∀ (o:List Int) (gone:List Bool),(goF g loads o gone).length=gone.length
 | [],_=>rfl
 | i :: o,gone=>by
  unfold goF
  split
  ·rw [goF_len g loads o,List.length_set]
  ·rfl
theorem ls1_tot (gone:List Bool) (hl:gone.length≤1000):Tot (loop (xref43_Shed_L2 gone) ((0:Int),([]:List Int))) (fun x=>x=lsK gone gone.length):=by
 refine Tot.rng gone.length (fun k (b:List Int)=>(((k:Nat):Int),b)) (fun k b=>b=lsK gone k) _ [] rfl rfl (fun k b hk hb => ?_) (fun b hb => ?_)
 ·subst hb
  have hle:=lsK_le gone k
  unfold xref43_Shed_L2
  refine Tot.iteT (decide_eq_true (by simp only;omega)) (Tot.bindIdx k rfl hk (Tot.bindIdx k rfl hk (Tot.jnR (fun m:List Int=>m=lsK gone (k+1)) (fun j hj=>Tot.ite (fun h=>Tot.chk (limB (by rw [List.length_append];simp only [List.length_singleton];omega)) (hj _ ?_)) (fun h=>hj _ ?_)) (fun m hm=>Tot.step m (by rw [wN (by omega)]) hm))))
  ·rw [lsK,List.getElem?_eq_getElem hk,h,if_pos rfl]
  ·rw [lsK,List.getElem?_eq_getElem hk,h,if_neg (by simp)]
 ·subst hb
  unfold xref43_Shed_L2
  exact Tot.iteF (decide_eq_false (by simp only;omega)) (Tot.last rfl)
theorem ls2_tot (gone:List Bool) (hl:gone.length≤1000):Tot (loop (plan_Shed_L4 gone) ((0:Int),([]:List Int))) (fun x=>x=lsK gone gone.length):=by
 refine Tot.rng gone.length (fun k (b:List Int)=>(((k:Nat):Int),b)) (fun k b=>b=lsK gone k) _ [] rfl rfl (fun k b hk hb => ?_) (fun b hb => ?_)
 ·subst hb
  have hle:=lsK_le gone k
  unfold plan_Shed_L4
  refine Tot.iteT (decide_eq_true (by simp only;omega)) (Tot.bindIdx k rfl hk (Tot.bindIdx k rfl hk (Tot.jnR (fun m:List Int=>m=lsK gone (k+1)) (fun j hj=>Tot.ite (fun h=>Tot.chk (limB (by rw [List.length_append];simp only [List.length_singleton];omega)) (hj _ ?_)) (fun h=>hj _ ?_)) (fun m hm=>Tot.step m (by rw [wN (by omega)]) hm))))
  ·rw [lsK,List.getElem?_eq_getElem hk,h,if_pos rfl]
  ·rw [lsK,List.getElem?_eq_getElem hk,h,if_neg (by simp)]
 ·subst hb
  unfold plan_Shed_L4
  exact Tot.iteF (decide_eq_false (by simp only;omega)) (Tot.last rfl)
section
variable {g:aFabric} (hg:FV g) {loads:List aLoad} (hll:loads.length≤16) (hld:∀ k,k<loads.length→∀ l,loads[k]? = some l→LdV g l)
include hg hll hld
theorem ref_L0:Tot (loop (xref43_Shed_L0 loads g) ((0:Int),(List.replicate (loads.length:Int).toNat false))) (fun x=>x=gone0 g loads):=by
 refine Tot.rng loads.length (fun k (b:List Bool)=>(((k:Nat):Int),b)) (fun k b=>b.length=loads.length∧∀ i,i<k→b[i]? = some (!(wy g loads i).2)) _ _ rfl ⟨by simp,fun i hi=>absurd hi (Nat.not_lt_zero _)⟩ (fun k b hk hb => ?_) (fun b hb => ?_)
 ·obtain⟨_,hw,hok⟩:=wy_eq hg hll hld hk
  have hkb:k<b.length:=by rw [hb.1];exact hk
  unfold xref43_Shed_L0
  refine Tot.iteT (decide_eq_true (by simp only;omega)) (Tot.bindIdx k rfl hk (Tot.bindOf hw (Tot.bindIdx k rfl hkb (Tot.bindIdx k rfl hkb (Tot.step _ (by rw [wN (by omega)]) ⟨by rw [List.length_set];exact hb.1,fun i hi => ?_⟩)))))
  rw [Int.toNat_natCast]
  by_cases e:i=k
  ·subst e;rw [List.getElem?_set_self hkb]
  ·rw [List.getElem?_set_ne (Ne.symm e)];exact hb.2 i (by omega)
 ·unfold xref43_Shed_L0
  refine Tot.iteF (decide_eq_false (by simp only;omega)) (Tot.last ?_)
  refine List.ext_getElem? fun i => ?_
  by_cases h:i<loads.length
  ·rw [hb.2 i h,gone0_get g loads h]
  ·rw [List.getElem?_eq_none (show b.length≤i by omega),List.getElem?_eq_none (by rw [gone0_len];omega)]
theorem ref_L1 {o:List Int} (ho:Ord' o loads.length):Tot (loop (xref43_Shed_L1 loads o g) ((0:Int),gone0 g loads)) (fun x=>x=goF g loads o (gone0 g loads)):=by
 refine Tot.rng o.length (fun k (b:List Bool)=>(((k:Nat):Int),b)) (fun k b=>b.length=loads.length∧goF g loads (o.drop k) b=goF g loads o (gone0 g loads)) _ _ rfl ⟨gone0_len g loads,rfl⟩ (fun k b hk hb => ?_) (fun b hb => ?_)
 ·have hr:=ho.r _ (List.getElem_mem hk)
  have hl:=ho.l
  have hd:o.drop k=o[k] :: o.drop (k+1):=List.drop_eq_getElem_cons hk
  have hkb:o[k].toNat<b.length:=by rw [hb.1];omega
  unfold xref43_Shed_L1
  refine Tot.jnR (fun m:Bool=>m=ovF g loads b) (fun j hj=>Tot.iteT (decide_eq_true (by simp only;omega)) (Tot.bindOf (over_eq hg hll hld hb.1) (hj _ rfl))) (fun m hm=>Tot.ite (fun h=>Tot.bindIdx k rfl hk (Tot.bindIdx _ (Int.toNat_of_nonneg hr.1).symm hkb (Tot.bindIdx _ (Int.toNat_of_nonneg hr.1).symm hkb (Tot.step _ (by rw [wN (by omega)]) ⟨by rw [List.length_set];exact hb.1,?_⟩)))) (fun h=>Tot.stop ?_))
  ·rw [← hb.2,hd]
   show _=goF g loads (o[k] :: o.drop (k+1)) b
   rw [goF,if_pos (by rw [← hm];exact h)]
  ·rw [← hb.2];exact(goF_stop (by rw [← hm];exact h) _).symm
 ·unfold xref43_Shed_L1
  refine Tot.jnR (fun m:Bool=>m=false) (fun j hj=>Tot.iteF (decide_eq_false (by simp only;omega)) (hj _ rfl)) (fun m hm=>Tot.iteF hm (Tot.last ?_))
  rw [← hb.2,List.drop_length];rfl
theorem code_L0:Tot (loop (plan_Shed_L0 loads g) ((0:Int),(List.replicate (g.fLinks.length:Int).toNat (0:Int)),(List.replicate (loads.length:Int).toNat ([]:List Int)),(List.replicate (loads.length:Int).toNat false))) (fun x=>Sums g loads (gone0 g loads) loads.length x.1∧(x.2.1.length=loads.length∧∀ i,i<loads.length→x.2.1[i]? = some (wy g loads i).1)∧x.2.2=gone0 g loads):=by
 have hgl:=hg.l
 refine Tot.rng loads.length (fun k (b:List Int×List (List Int)×List Bool)=>(((k:Nat):Int),b.1,b.2.1,b.2.2)) (fun k b=>Sums g loads (gone0 g loads) k b.1∧(b.2.1.length=loads.length∧∀ i,i<k→b.2.1[i]? = some (wy g loads i).1)∧(b.2.2.length=loads.length∧∀ i,i<k→b.2.2[i]? = some (!(wy g loads i).2))) _ (_,_,_) rfl ⟨⟨by simp,fun j h0 h1 => ?_⟩,⟨by simp,fun i hi=>absurd hi (Nat.not_lt_zero _)⟩,⟨by simp,fun i hi=>absurd hi (Nat.not_lt_zero _)⟩⟩ (fun k b hk hb => ?_) (fun b hb => ?_)
 ·have hj:j.toNat<(List.replicate (g.fLinks.length:Int).toNat (0:Int)).length:=by simp;omega
  have:=gt_get hj
  rw [Int.toNat_of_nonneg h0] at this
  rw [this];simp [sm]
 ·obtain⟨hb1,⟨hb2,hb2'⟩,hb3,hb3'⟩:=hb
  obtain⟨hw,_,hok⟩:=wy_eq hg hll hld hk
  have hr:=rt_ok hg hll hld hk
  have h2:k<b.2.1.length:=by rw [hb2];exact hk
  have h3:k<b.2.2.length:=by rw [hb3];exact hk
  have hg0:=gone0_get g loads hk
  unfold plan_Shed_L0
  refine Tot.iteT (decide_eq_true (by simp only;omega)) (Tot.bindIdx k rfl hk (Tot.bindOf hw (Tot.bindIdx k rfl h2 (Tot.bindIdx k rfl h2 (Tot.bindIdx k rfl h3 (Tot.bindIdx k rfl h3 (Tot.bindT (addLoop (wy g loads k).1 (rt loads k) b.1 g.fLinks.length hok.k hok.l ⟨by omega,by omega⟩ hb1.1 (fun j h0 h1 => ?_) (fun i hi s hs => ?_) (fun s => ?_)) fun x hx=>Tot.step (x,_,_) (by rw [wN (by omega)]) ⟨⟨hx.1,fun j h0 h1 => ?_⟩,⟨by rw [List.length_set];exact hb2,fun i hi => ?_⟩,⟨by rw [List.length_set];exact hb3,fun i hi => ?_⟩⟩)))))))
  ·have:=sm_bd hg hll hld (gone0 g loads) j k (by omega)
   rw [hb1.2 j h0 h1];omega
  ·unfold plan_Shed_L1
   have hrr:=hok.k _ (List.getElem_mem hi)
   have hrl:0≤(wy g loads k).1[i]∧(wy g loads k).1[i]<s.length:=by rw [hs];exact hrr
   refine Tot.iteT (decide_eq_true (by simp only;omega)) (Tot.bindIdx i rfl hi (bindGt hrl (bindGt hrl (bindGt hrl (bindGt hrl (Tot.some ?_))))))
   rw [hr.1]
  ·unfold plan_Shed_L1;rw [if_neg (by simp)]
  ·rw [hx.2 j h0 h1,hb1.2 j h0 h1]
   show _=sm g loads (gone0 g loads) j k+_
   rw [List.getD_eq_getElem?_getD,hg0]
   cases e:(wy g loads k).2 with
   | true=>rfl
   | false=>rw [hok.n e];rfl
  ·rw [Int.toNat_natCast]
   by_cases e:i=k
   ·subst e;rw [List.getElem?_set_self h2]
   ·rw [List.getElem?_set_ne (Ne.symm e)];exact hb2' i (by omega)
  ·rw [Int.toNat_natCast]
   by_cases e:i=k
   ·subst e;rw [List.getElem?_set_self h3]
   ·rw [List.getElem?_set_ne (Ne.symm e)];exact hb3' i (by omega)
 ·obtain⟨hb1,hb2,hb3,hb3'⟩:=hb
  unfold plan_Shed_L0
  refine Tot.iteF (decide_eq_false (by simp only;omega)) (Tot.last ⟨hb1,hb2,?_⟩)
  refine List.ext_getElem? fun i => ?_
  by_cases h:i<loads.length
  ·rw [hb3' i h,gone0_get g loads h]
  ·rw [List.getElem?_eq_none (show b.2.2.length≤i by omega),List.getElem?_eq_none (by rw [gone0_len];omega)]
theorem code_L2 (f:aFabric) (hfl:f.fLinks=g.fLinks) {o:List Int} (ho:Ord' o loads.length) {p:List Int×List (List Int)×List Bool} (hp:Sums g loads (gone0 g loads) loads.length p.1∧(p.2.1.length=loads.length∧∀ i,i<loads.length→p.2.1[i]? = some (wy g loads i).1)∧p.2.2=gone0 g loads) :
  Tot (loop (plan_Shed_L2 f loads o p) ((0:Int),p.1,p.2.2)) (fun x=>x=goF g loads o (gone0 g loads)):=by
 obtain⟨hp1,⟨hp2,hp2'⟩,hp3⟩:=hp
 refine Tot.rng o.length (fun k (b:List Int×List Bool)=>(((k:Nat):Int),b.1,b.2)) (fun k b=>b.2.length=loads.length∧Sums g loads b.2 loads.length b.1∧goF g loads (o.drop k) b.2=goF g loads o (gone0 g loads)) _ (_,_) rfl ⟨by rw [hp3];exact gone0_len g loads,by rw [hp3];exact hp1,by rw [hp3];rfl⟩ (fun k b hk hb => ?_) (fun b hb => ?_)
 ·obtain⟨hb1,hb2,hb3⟩:=hb
  have hr:=ho.r _ (List.getElem_mem hk)
  have hl:=ho.l
  have hd:o.drop k=o[k] :: o.drop (k+1):=List.drop_eq_getElem_cons hk
  have hki:o[k].toNat<loads.length:=by omega
  have hkb:o[k].toNat<b.2.length:=by rw [hb1];exact hki
  have hkp:o[k].toNat<p.2.1.length:=by rw [hp2];exact hki
  have ek:=(Int.toNat_of_nonneg hr.1).symm
  obtain⟨_,_,hok⟩:=wy_eq hg hll hld hki
  have hrt:=rt_ok hg hll hld hki
  have hpw:p.2.1[o[k].toNat]=(wy g loads o[k].toNat).1:=by
   have:=hp2' _ hki
   rw [List.getElem?_eq_getElem hkp] at this
   exact Option.some.inj this
  unfold plan_Shed_L2
  refine Tot.iteT (decide_eq_true (by simp only;omega)) (Tot.jnR (fun m:List Int×List Bool=>m.2.length=loads.length∧Sums g loads m.2 loads.length m.1∧goF g loads (o.drop (k+1)) m.2=goF g loads o (gone0 g loads)) (fun j hj=>Tot.bindIdx k rfl hk (Tot.bindIdx _ ek hkb (Tot.bindIdx _ ek hkb (Tot.ite (fun h=>hj _ ⟨hb1,hb2,?_⟩) (fun h=>Tot.bindOf (fits_tot hg hll hld f hfl hb2) (Tot.ite (fun h2=>Tot.stop ?_) (fun h2=>Tot.bindIdx _ ek hkb (Tot.bindIdx _ ek hkb (Tot.bindIdx _ ek hkp (Tot.bindIdx _ ek hkp ?_)))))))))) (fun m hm=>Tot.step m (by rw [wN (by omega)]) hm))
  ·rw [← hb3,hd]
   cases e:ovF g loads b.2 with
   | false=>rw [goF_stop e,goF_stop e]
   | true =>
    show _=goF g loads (o[k] :: o.drop (k+1)) b.2
    rw [goF,if_pos e]
    congr 1
    refine List.ext_getElem? fun i => ?_
    by_cases e:o[k].toNat=i
    ·subst e;rw [List.getElem?_set_self hkb,List.getElem?_eq_getElem hkb,h]
    ·rw [List.getElem?_set_ne e]
  ·have:ovF g loads b.2=false:=by simpa using h2
   rw [← hb3];exact(goF_stop this _).symm
  ·have hov:ovF g loads b.2=true:=by simpa using h2
   rw [hpw]
   refine Tot.bindT (addLoop (wy g loads o[k].toNat).1 (-(rt loads o[k].toNat)) b.1 g.fLinks.length hok.k hok.l ⟨by omega,by omega⟩ hb2.1 (fun j h0 h1 => ?_) (fun i hi s hs => ?_) (fun s => ?_)) fun x hx=>hj _ ⟨by rw [List.length_set];exact hb1,⟨hx.1,fun j h0 h1 => ?_⟩,?_⟩
   ·have:=sm_bd hg hll hld b.2 j loads.length (Nat.le_refl _)
    rw [hb2.2 j h0 h1];omega
   ·unfold plan_Shed_L3
    have hrr:=hok.k _ (List.getElem_mem hi)
    have hrl:0≤(wy g loads o[k].toNat).1[i]∧(wy g loads o[k].toNat).1[i]<s.length:=by rw [hs];exact hrr
    refine Tot.iteT (decide_eq_true (by simp only;omega)) (Tot.bindIdx i rfl hi (bindGt hrl (bindGt hrl (Tot.bindIdx _ ek hki (bindGt hrl (bindGt hrl (Tot.some ?_)))))))
    rw [hrt.1];rfl
   ·unfold plan_Shed_L3;rw [if_neg (by simp)]
   ·show gt x j=sm g loads (b.2.set o[k].toNat true) j loads.length
    rw [hx.2 j h0 h1,hb2.2 j h0 h1,sm_set hg hll hld hki hkb h,if_pos hki,ct_neg];rfl
   ·show goF g loads (o.drop (k+1)) (b.2.set o[k].toNat true)=_
    rw [← hb3,hd,goF,if_pos hov]
 ·unfold plan_Shed_L2
  refine Tot.iteF (decide_eq_false (by simp only;omega)) (Tot.last ?_)
  rw [← hb.2.2,List.drop_length];rfl
end
theorem ld_wo {f:aFabric} {items:List aItem} {l:aLoad} (h:LdV f l):LdV (woF f items) l:=⟨h.a,h.b,h.r⟩
noncomputable def shF (f:aFabric) (loads:List aLoad) (o:List Int) (items:List aItem):List Int:=lsK (goF (woF f items) loads o (gone0 (woF f items) loads)) loads.length
theorem shed_ex {f:aFabric} {loads:List aLoad} {o:List Int} {items:List aItem} (h1:f.fLinks.length≤1000000) (h2:loads.length≤1000000) (h3:o.length≤1000000) (h4:items.length≤1000000) :
  ∃ r,plan_Shed f loads o items=some r∧xref43_Shed f loads o items=some r∧((¬ (Vd f loads items∧Ord' o loads.length)∧r=([],1))∨((Vd f loads items∧Ord' o loads.length)∧r=(shF f loads o items,0))):=by
 by_cases hv:Vd f loads items∧Ord' o loads.length
 ·obtain⟨hv,ho⟩:=hv
  have hI:∀ x∈items,ItV f x:=fun x hx=>by
   obtain⟨k,hk,e⟩:=List.mem_iff_getElem.1 hx
   exact(hv.i k hk x (by rw [List.getElem?_eq_getElem hk,e])).1
  have hg:=woF_ok hv.fv items
  have hld:∀ k,k<loads.length→∀ l,loads[k]? = some l→LdV (woF f items) l:=fun k hk l e=>ld_wo (hv.l k hk l e)
  have hlen:(goF (woF f items) loads o (gone0 (woF f items) loads)).length=loads.length:=by rw [goF_len,gone0_len]
  have hll:=hv.ll
  have hfl:=hv.fv.l
  refine⟨(shF f loads o items,0),Tot.eq ?_,Tot.eq ?_,.inr ⟨⟨hv,ho⟩,rfl⟩⟩
  ·unfold plan_Shed
   refine Tot.jnR (fun m:Bool=>m=false) (fun j hj=>Tot.bindT (valid_tot h1 h2 h4) fun b hb=>Tot.iteF (by rw [hb.2 hv];rfl) (Tot.bindT (permitted_tot loads o h3 h2) fun b hb=>hj _ (by rw [hb.2 ho];rfl))) (fun m hm=>Tot.iteF hm (Tot.bindOf (without_eq hv.fv h4 hI) (Tot.chk (mk_ok (by omega) (by omega)) (Tot.chk (mk_ok (by omega) (by omega)) (Tot.chk (mk_ok (by omega) (by omega)) (Tot.bindT (code_L0 hg hll hld) fun p hp=>Tot.bindT (code_L2 hg hll hld f rfl ho hp) fun x hx => ?_))))))
   subst hx
   exact Tot.bindT (ls2_tot _ (by rw [hlen];omega)) fun x hx=>Tot.some (by rw [hx,hlen];rfl)
  ·unfold xref43_Shed
   refine Tot.jnR (fun m:Bool=>m=false) (fun j hj=>Tot.bindT (rvalid42_tot h1 h2 h4) fun b hb=>Tot.iteF (by rw [hb.2 hv];rfl) (Tot.bindT (ordered_tot o loads.length h3 h2) fun b hb=>hj _ (by rw [hb.2 ho];rfl))) (fun m hm=>Tot.iteF hm (Tot.bindOf (rwithout_eq hv.fv h4 hI) (Tot.chk (mk_ok (by omega) (by omega)) (Tot.bindT (ref_L0 hg hll hld) fun p hp => ?_))))
   subst hp
   refine Tot.bindT (ref_L1 hg hll hld ho) fun x hx => ?_
   subst hx
   exact Tot.bindT (ls1_tot _ (by rw [hlen];omega)) fun x hx=>Tot.some (by rw [hx,hlen];rfl)
 ·refine⟨([],1),Tot.eq ?_,Tot.eq ?_,.inl ⟨hv,rfl⟩⟩
  ·unfold plan_Shed
   refine Tot.jnR (fun m:Bool=>m=true) (fun j hj=>Tot.bindT (valid_tot h1 h2 h4) fun b hb=>Tot.ite (fun _=>hj _ rfl) (fun h=>Tot.bindT (permitted_tot loads o h3 h2) fun c hc=>hj _ ?_)) (fun m hm=>Tot.iteT hm (Tot.some rfl))
   cases c with
   | false=>rfl
   | true=>exact absurd ⟨hb.1 (by simpa using h),hc.1 rfl⟩ hv
  ·unfold xref43_Shed
   refine Tot.jnR (fun m:Bool=>m=true) (fun j hj=>Tot.bindT (rvalid42_tot h1 h2 h4) fun b hb=>Tot.ite (fun _=>hj _ rfl) (fun h=>Tot.bindT (ordered_tot o loads.length h3 h2) fun c hc=>hj _ ?_)) (fun m hm=>Tot.iteT hm (Tot.some rfl))
   cases c with
   | false=>rfl
   | true=>exact absurd ⟨hb.1 (by simpa using h),hc.1 rfl⟩ hv
end Go.Proofs.Ytkcpjnjneehecaa
