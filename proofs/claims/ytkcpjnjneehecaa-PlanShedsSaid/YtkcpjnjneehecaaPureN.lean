/- PlanSheds. -/
import Derived.Test.YtkcpjnjneehecaaPureZC
namespace Go.Proofs.Ytkcpjnjneehecaa
open Go Go.Vc
theorem items_tot (d:exchangepointmill_Deck) (hd:DeckOk d) {f:aFabric} (hf:FV f):Tot (exchangepointmill_Deck_Items d f 3) (fun x=>x.1.length≤3∧DeckOk x.2):=by
 have hs:=hf.s
 have hl:=hf.l
 obtain⟨S,eS⟩:∃ S:Nat,f.fSwitches=S:=⟨f.fSwitches.toNat,by omega⟩
 unfold exchangepointmill_Deck_Items
 rw [show w64 ((3:Int)+1)=((4:Nat):Int) from by decide]
 refine Tot.bindT (nx _ hd 4 (by decide) (by decide)) fun r1 h1 => ?_
 obtain⟨⟨n,en,hn⟩,hd1⟩:=h1
 refine Tot.bindLoop (fun s:Int×List aItem×exchangepointmill_Deck=>∃ k:Nat,s.1=(k:Int)∧k+s.2.1.length≤3∧DeckOk s.2.2) (fun s=>s.1.toNat) (fun x=>x.2.length≤3∧DeckOk x.1) ⟨n,en,by simp;omega,hd1⟩ (fun s hs => ?_) (fun x hx=>Tot.some hx)
 obtain⟨k,e,h1,h4⟩:=hs
 have ew:w64 ((f.fLinks.length:Int)+1)=((f.fLinks.length+1:Nat):Int):=wN (by omega)
 unfold exchangepointmill_Deck_Items_L0
 rw [ew]
 refine Tot.ite (fun h => ?_) (fun h=>Tot.out ⟨by simp only;omega,h4⟩)
 have h:=of_decide_eq_true h
 refine Tot.bindT (nx _ h4 (f.fLinks.length+1) (by omega) (by omega)) fun a ha=>Tot.jnR (fun m:Bool×exchangepointmill_Deck=>DeckOk m.2) (fun j hj=>Tot.ite (fun _=>hj _ ha.2) (fun _=>Tot.bindT (nx _ ha.2 4 (by decide) (by decide)) fun b hb=>hj _ hb.2)) (fun m hm=>Tot.jnR (fun m:Bool×Int×exchangepointmill_Deck=>DeckOk m.2.2) (fun j hj=>Tot.ite (fun _ => ?_) (fun _=>hj _ hm)) (fun m hm => ?_))
 ·rw [eS]
  exact Tot.bindT (nx _ hm S (by omega) (by omega)) fun b hb=>hj _ hb.2
 ·refine Tot.chk (by simp) (Tot.chk (limB (by simp;omega)) (Tot.chk (limB (by simp;omega)) (Tot.bindT (rvalid42_tot (by omega) (by simp) (by simp;omega)) fun b _=>Tot.jnR (fun m:List aItem=>k-1+m.length≤3) (fun j hj=>Tot.ite (fun _=>Tot.chk (limB (by simp;omega)) (hj _ (by simp;omega))) (fun _=>hj _ (by omega))) (fun q hq=>Tot.next ⟨k-1,?_,hq,hm⟩ ?_))))
  ·simp only;rw [e,w64_id (by omega) (by omega)];omega
  ·simp only;rw [e,w64_id (by omega) (by omega)];omega
theorem sheds_law (a0:List aItem) {p0:Prop} (_:p0) (a1:List Int) {p1:Prop} (_:p1) (a2:List Int) (h2:(∀ y∈a2,I64 y)∧a2.length≤maxLen):xlaw43_PlanSheds a0 a1 a2=some true:=by
 refine Tot.eq ?_
 unfold xlaw43_PlanSheds
 refine Tot.ite (fun _=>Tot.bindOf awake_eq (Tot.some rfl)) (fun h => ?_)
 have hb:a0.length≤20∧a1.length≤60:=by simp at h;omega
 refine Tot.bindOf (show exchangepointmill_New a2=some ⟨a2,0⟩ from rfl) (Tot.bindT (scene_tot _ (new_ok a2 h2.2)) fun r hr => ?_)
 have hs:=hr.f.s
 have hl:=hr.f.l
 have hll:=hr.ll
 have hol:=hr.o.l
 refine Tot.bindOf (failures_eq (by omega)) (Tot.bindOf (rfailures_eq (by omega)) (Tot.bindOf (rounds_self _ (by have:=flF_len r.1;omega) (fun x hx=>by have:=flF_item_len hx;omega)) (Tot.iteF rfl (Tot.bindT (items_tot _ hr.d hr.f) fun q hq => ?_))))
 refine Tot.bindT (okLoop (n:=3) (by decide) (fun k hk => ?_) ?_) fun x hx=>by subst hx;exact Tot.bindOf awake_eq (Tot.some rfl)
 ·have hx:(([([]:List aItem),a0,q.1]:List (List aItem))[k]).length≤20:=by
   match k,hk with
   | 0,_=>simp
   | 1,_=>exact hb.1
   | 2,_=>show q.1.length≤20;omega
  unfold xlaw43_PlanSheds_L0
  refine Tot.iteT (decide_eq_true (by simp only [List.length_cons,List.length_nil];omega)) (Tot.bindIdx k rfl hk ?_)
  generalize ([([]:List aItem),a0,q.1]:List (List aItem))[k]=X at hx
  refine Tot.bindT (okLoop (n:=2) (by decide) (fun i hi => ?_) ?_) fun x hx=>by subst hx;exact Tot.some rfl
  ·have hy:(([r.2.2.1,a1]:List (List Int))[i]).length≤60:=by
    match i,hi with
    | 0,_=>show r.2.2.1.length≤60;omega
    | 1,_=>exact hb.2
   unfold xlaw43_PlanSheds_L1
   refine Tot.iteT (decide_eq_true (by simp only [List.length_cons,List.length_nil];omega)) (Tot.bindIdx i rfl hi ?_)
   generalize ([r.2.2.1,a1]:List (List Int))[i]=Y at hy
   obtain⟨s,e1,e2,hs⟩:=shed_ex (f:=r.1) (loads:=r.2.1) (o:=Y) (items:=X) (by omega) (by omega) (by omega) (by omega)
   have hsl:s.1.length≤1000000:=by
    rcases hs with ⟨_,hs⟩ | ⟨_,hs⟩
    ·rw [hs];simp
    ·rw [hs];have:=lsK_le (goF (woF r.1 X) r.2.1 Y (gone0 (woF r.1 X) r.2.1)) r.2.1.length
     show(lsK _ _).length≤_
     omega
   exact Tot.bindOf e1 (Tot.bindOf e2 (Tot.jnR (fun m:Bool=>m=false) (fun j hj=>Tot.iteF (by simp) (Tot.bindOf (ints_self _ hsl) (hj _ rfl))) (fun m hm=>Tot.iteF hm (Tot.some rfl))))
  ·unfold xlaw43_PlanSheds_L1;rfl
 ·unfold xlaw43_PlanSheds_L0;rfl
end Go.Proofs.Ytkcpjnjneehecaa
