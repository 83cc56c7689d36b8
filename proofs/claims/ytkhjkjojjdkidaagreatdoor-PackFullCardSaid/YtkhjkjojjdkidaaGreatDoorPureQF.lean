/- The law of full messages, in plain Lean. -/
import Derived.Test.YtkhjkjojjdkidaaGreatDoorPureZC
namespace Go.Proofs.YtkhjkjojjdkidaaGreatDoor
open Go Go.Vc
def AL {α:Type} (R:α→α→Prop):List α→Prop
 | []=>True
 | x :: l=>(∀ y t,l=y :: t→R x y)∧AL R l
theorem B1p {α:Type} {R:α→α→Prop}:∀ {u v:List α},AL R u→AL R v→(∀ x∈u,∀ y∈v,R x y)→AL R (u++v)
 | [],v,_,hv,_=>hv
 | x :: u,v,hu,hv,h=>by
  refine⟨fun y t e => ?_,B1p hu.2 hv fun a ha=>h a (List.mem_cons_of_mem _ ha)⟩
  cases u with
  | nil=>exact h x (List.mem_cons_self ..) y (by simp at e;rw [e];exact List.mem_cons_self ..)
  | cons z u =>
   have e:z :: (u++v)=y :: t:=e
   injection e with e1 e2
   exact hu.1 y u (by rw [e1])
theorem B4k {α:Type} {R:α→α→Prop}:∀ {u:List α},AL R u→∀ (i:Nat) (h:i+1<u.length),R (u[i]'(by omega)) u[i+1]
 | [],_,i,h=>absurd h (by simp)
 | x :: u,hu,0,h=>by
  cases u with
  | nil=>exact absurd h (by simp)
  | cons y u=>exact hu.1 y u rfl
 | x :: u,hu,i+1,h=>by
  have:=B4k hu.2 i (by simpa using h)
  simpa using this
theorem B1q {α β:Type} {R:α→α→Prop} {R':β→β→Prop} (f:α→β):∀ {u:List α},AL R u→(∀ x∈u,∀ y∈u,R x y→R' (f x) (f y))→AL R' (u.map f)
 | [],_,_=>trivial
 | x :: u,hu,h=>by
  refine⟨fun y t e => ?_,B1q f hu.2 fun a ha b hb=>h a (List.mem_cons_of_mem _ ha) b (List.mem_cons_of_mem _ hb)⟩
  cases u with
  | nil=>cases e
  | cons z u =>
   rw [List.map_cons] at e
   injection e with e1 e2
   rw [← e1]
   exact h x (List.mem_cons_self ..) z (List.mem_cons_of_mem _ (List.mem_cons_self ..)) (hu.1 z u rfl)
theorem B2c {α β:Type} {R:β→β→Prop} (f:α→List β):∀ {A:List α},A.Nodup→(∀ a∈A,AL R (f a))→(∀ a∈A,∀ b∈A,a≠b→∀ x∈f a,∀ y∈f b,R x y)→AL R (A.flatMap f)
 | [],_,_,_=>trivial
 | a :: A,hn,h1,h2=>by
  rw [List.flatMap_cons]
  rw [List.nodup_cons] at hn
  refine B1p (h1 a (List.mem_cons_self ..)) (B2c f hn.2 (fun b hb=>h1 b (List.mem_cons_of_mem _ hb)) fun b hb c hc=>h2 b (List.mem_cons_of_mem _ hb) c (List.mem_cons_of_mem _ hc)) fun x hx y hy => ?_
  obtain⟨b,hb,hy⟩:=List.mem_flatMap.1 hy
  exact h2 a (List.mem_cons_self ..) b (List.mem_cons_of_mem _ hb) (fun e=>hn.1 (e ▸ hb)) x hx y hy
section
variable {V:List A2→Bool}
theorem B2d:∀ (l cur:List A2),∃ s rest,ck V cur l=(cur++s) :: rest
 | [],cur=>⟨[],[],by simp [ck]⟩
 | p :: l,cur=>by
  simp only [ck]
  split
  ·obtain⟨s,rest,e⟩:=B2d l (cur++[p])
   exact⟨p :: s,rest,by rw [e];simp⟩
  ·exact⟨[],ck V [p] l,by simp⟩
theorem B1r:∀ (l cur:List A2) {c:List A2},c∈ck V cur l→∀ q∈c,q∈cur∨q∈l
 | [],cur,c,h,q,hq=>by simp [ck] at h;subst h;exact .inl hq
 | p :: l,cur,c,h,q,hq=>by
  simp only [ck] at h
  split at h
  ·rcases B1r l _ h q hq with h | h
   ·rcases List.mem_append.1 h with h | h
    ·exact .inl h
    ·exact .inr (by rw [List.mem_singleton.1 h];exact List.mem_cons_self ..)
   ·exact .inr (List.mem_cons_of_mem _ h)
  ·rcases List.mem_cons.1 h with rfl | h
   ·exact .inl hq
   ·rcases B1r l _ h q hq with h | h
    ·exact .inr (by rw [List.mem_singleton.1 h];exact List.mem_cons_self ..)
    ·exact .inr (List.mem_cons_of_mem _ h)
theorem A3n {l c:List A2} (h:c∈chunks V l):∀ q∈c,q∈l:=fun q hq=>by
 cases l with
 | nil=>cases h
 | cons p l =>
  rcases B1r l [p] h q hq with h | h
  ·rw [List.mem_singleton.1 h];exact List.mem_cons_self ..
  ·exact List.mem_cons_of_mem _ h
def Nf (V:List A2→Bool) (c c':List A2):Prop:=c≠[]∧∃ p t,c'=p :: t∧V (c++[p])=false
theorem B1s:∀ (l cur:List A2),cur≠[]→AL (Nf V) (ck V cur l)
 | [],cur,h=>⟨(fun y t e=>by cases e),trivial⟩
 | p :: l,cur,h=>by
  simp only [ck]
  split
  ·exact B1s l _ (by simp)
  ·rename_i hv
   refine⟨fun y t e => ?_,B1s l _ (by simp)⟩
   obtain⟨s,rest,e'⟩:=B2d (V:=V) l [p]
   rw [e'] at e
   injection e with e1 e2
   exact⟨h,p,s,by rw [← e1];rfl,by simpa using hv⟩
theorem A8h (l:List A2):AL (Nf V) (chunks V l):=by
 cases l with
 | nil=>trivial
 | cons p l=>exact B1s l [p] (by simp)
end
inductive Rel:C4→C4→Prop
 | ww (c:List A2) (p:A2) (t:List A2) (h0:c≠[]) (hv:bW (c++[p])=false) (hr:∀ q∈c++[p],aR q.fAddr) (hl:c.length≤1000):Rel (uW c) (uW (p :: t))
 | wa (c:List A2) (a:C5) (c':List A2):Rel (uW c) (uAa a c')
 | aa (a:C5) (c:List A2) (p:A2) (t:List A2) (ha:isD a) (h0:c≠[]) (hv:bA a.fNext (c++[p])=false) (hr:∀ q∈c++[p],aR q.fAddr) (hl:c.length≤1000):Rel (uAa a c) (uAa a (p :: t))
 | ab (a b:C5) (c c':List A2) (ha:isD a) (hb:isD b) (h:a≠b):Rel (uAa a c) (uAa b c')
theorem B3e {l:List B7} (h:Chs l):AL Rel (packF l):=by
 have hlen:=h.len
 unfold packF
 refine B1p ?_ ?_ ?_
 ·refine B1q uW (A8h _) fun c hc c' hc' hN => ?_
  obtain⟨h0,p,t,rfl,hv⟩:=hN
  have:=A2p hc
  have:=A21 l
  refine .ww c p t h0 hv (fun q hq=>h.gR q ?_) (by omega)
  rcases List.mem_append.1 hq with hq | hq
  ·exact A3n hc q hq
  ·exact A3n hc' q (by rw [List.mem_singleton.1 hq];exact List.mem_cons_self ..)
 ·refine B2c _ (B0s l) (fun a ha => ?_) (fun a ha b hb hab x hx y hy => ?_)
  ·refine B1q (uAa a) (A8h _) fun c hc c' hc' hN => ?_
   obtain⟨h0,p,t,rfl,hv⟩:=hN
   have:=A2p hc
   have:=A3m a l
   refine .aa a c p t (h.foD ha) h0 hv (fun q hq=>h.sR q (a:=a) ?_) (by omega)
   rcases List.mem_append.1 hq with hq | hq
   ·exact A3n hc q hq
   ·exact A3n hc' q (by rw [List.mem_singleton.1 hq];exact List.mem_cons_self ..)
  ·obtain⟨c,hc,rfl⟩:=List.mem_map.1 hx
   obtain⟨c',hc',rfl⟩:=List.mem_map.1 hy
   exact .ab a b c c' (h.foD ha) (h.foD hb) hab
 ·intro x hx y hy
  obtain⟨c,hc,rfl⟩:=List.mem_map.1 hx
  obtain⟨a,ha,hy⟩:=List.mem_flatMap.1 hy
  obtain⟨c',hc',rfl⟩:=List.mem_map.1 hy
  exact .wa c a c'
theorem B2e {α:Type} {c:List α} (h:c≠[]):decide ((0:Int)<(c.length:Int))=true:=by
 have:=List.length_pos_iff.2 h
 exact decide_eq_true (by omega)
theorem B1t {u:List C4} {e:Int} (hu:u.length≤4000000) {i:Nat} (hi:i+1<u.length) (hr:Rel (u[i]'(by omega)) u[i+1]) (h:∀ x∈u,(x.fAttrs=noD∨isD x.fAttrs)∧x.fWithdraw.length≤100000∧x.fAnnounce.length≤100000) :
  J7 (u,e) ((i+1:Nat):Int)=some (.inr ((i+1+1:Nat):Int)):=by
 refine Tot.eq ?_
 unfold J7
 refine Tot.iteT (decide_eq_true (show((i+1:Nat):Int)<(u.length:Int) by omega)) ?_
 refine Tot.jnR (fun _=>True) (fun j hj => ?_) (fun m _=>Tot.some (by rw [F4 hi (by omega)]))
 refine Tot.bindIdx i (A6g (n:=u.length) (by omega) (by omega)) (by show i<u.length;omega) ?_
 refine Tot.bindIdx (i+1) rfl hi ?_
 obtain⟨_,b1,b2⟩:=h (u[i]'(by omega)) (List.getElem_mem _)
 refine Tot.chk (limB (show(u[i]'(by omega)).fWithdraw.length≤_ by omega)) (Tot.chk (limB (show(u[i]'(by omega)).fAnnounce.length≤_ by omega)) ?_)
 revert hr b1 b2
 show Rel u[i] u[i+1]→_
 generalize u[i]=x
 generalize u[i+1]=y
 intro hr b1 b2
 refine Tot.jnR (fun m=>P4 (C4.mk m.2 x.fAttrs m.1)=some false) (fun j2 hj2 => ?_) (fun m hm => ?_)
 ·cases hr with
  | ww c p t h0 hv hR hl =>
   refine Tot.iteT (by rw [Bool.and_eq_true];exact⟨B2e h0,B2e (by simp [uW])⟩) ?_
   refine Tot.bindIdx 0 rfl (by simp [uW]) ?_
   refine Tot.chk (limB (by simp [uW];omega)) ?_
   refine hj2 _ ?_
   have:=B4c (l:=c++[p]) hR (by simp;omega)
   rw [hv] at this
   exact this
  | wa c a c' =>
   refine Tot.iteF (by simp [uAa]) ?_
   refine Tot.jnR (fun m=>m=false) (fun j3 hj3=>Tot.iteF (by simp [uW]) (hj3 _ rfl)) (fun m hm => ?_)
   subst hm
   exact Tot.iteF rfl (hj _ trivial)
  | aa a c p t ha h0 hv hR hl =>
   refine Tot.iteF (by simp [uAa]) ?_
   refine Tot.jnR (fun m=>m=true) (fun j3 hj3 => ?_) (fun m hm => ?_)
   ·refine Tot.iteT (by rw [Bool.and_eq_true];exact⟨B2e h0,B2e (by simp [uAa])⟩) ?_
    refine Tot.bindOf (B0q ha ha) (hj3 _ (B27 _))
   ·subst hm
    refine Tot.iteT rfl ?_
    refine Tot.bindIdx 0 rfl (by simp [uAa]) ?_
    refine Tot.chk (limB (by simp [uAa];omega)) ?_
    refine hj2 _ ?_
    obtain⟨n,x,m,hd,rfl⟩:=ha
    have:=B4d hd (l:=c++[p]) hR (by simp;omega) (by simp)
    have hv':bA x (c++[p])=false:=hv
    rw [hv'] at this
    exact this
  | ab a b c c' ha hb hab =>
   refine Tot.iteF (by simp [uAa]) ?_
   refine Tot.jnR (fun m=>m=false) (fun j3 hj3 => ?_) (fun m hm => ?_)
   ·refine Tot.ite (fun _=>Tot.bindOf (B0q ha hb) (hj3 _ (B5o hab))) (fun _=>hj3 _ rfl)
   ·subst hm
    exact Tot.iteF rfl (hj _ trivial)
 ·refine Tot.bindOf hm ?_
  exact Tot.iteF rfl (hj _ trivial)
theorem B4l (a0:List Int) (h0:(∀ y∈a0,I64 y)∧a0.length≤maxLen) (a1:Int) {p1:Prop} (_:p1):Y7 a0 a1=some true:=by
 refine Tot.eq ?_
 unfold Y7
 refine B4h a0 h0.2 a1 (b:=200) (m:=400) (by decide) (by decide) fun r h => ?_
 refine Tot.bindOf (B2b h) ?_
 refine Tot.iteF rfl ?_
 have hl:=B3c h
 have hA:=B3e h
 refine Tot.bindLoop (fun s:Int=>∃ i:Nat,s=((i+1:Nat):Int)) (fun s=>(((packF r.1).length:Int)-s).toNat) (fun x=>x = .inr ()) ⟨0,rfl⟩ (fun s hs => ?_) (fun x hx => ?_)
 ·obtain⟨i,rfl⟩:=hs
  by_cases hi:i+1<(packF r.1).length
  ·rw [B1t (by omega) hi (B4k hA i hi) (B4i h)]
   exact Tot.next ⟨i+1,rfl⟩ (by omega)
  ·unfold J7
   refine Tot.iteF (decide_eq_false (show ¬ ((i+1:Nat):Int)<((packF r.1).length:Int) by omega)) ?_
   exact Tot.out rfl
 ·subst hx
  refine Tot.bindOf B4j ?_
  exact Tot.some rfl
end Go.Proofs.YtkhjkjojjdkidaaGreatDoor
