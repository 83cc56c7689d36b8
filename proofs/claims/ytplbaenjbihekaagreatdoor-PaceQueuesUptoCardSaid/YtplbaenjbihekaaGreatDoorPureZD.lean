/- The decks, raw changes; queues: what is valid, pushing, sending; the law, in plain Lean. -/
import Derived.Test.YtplbaenjbihekaaGreatDoorPureZC
import Derived.Test.YtplbaenjbihekaaGreatDoorVcMP
namespace Go.Proofs.YtplbaenjbihekaaGreatDoor
open Go Go.Vc
theorem B5g (a m:Int) (hm:0<m) (hb:m≤4611686018427387904):H2 a m=some (a % m):=by
 obtain⟨h0,h1⟩:=B2u a hm;unfold H2;refine C35 (by simp;omega) ?_;unfold jn;rcases B9j a hm with h | ⟨h,hn⟩
 ·rw [h];exact B60 (by simp;omega) rfl
 ·rw [h];refine B5z (by simp;omega) ?_;rw [show a % m-m+m=a % m from by omega,H1 (by omega) (by omega)]
def DeckOk (d:A9):Prop:=0≤d.fAt∧d.fAt≤d.fL.length∧d.fL.length≤9223372036854775807
theorem A55 (d:A9) (hd:DeckOk d) (n:Int) (hn:0<n) (hn':n≤4611686018427387904):Tot (F6 d n) (fun x=>0≤x.1∧x.1<n∧DeckOk x.2):=by
 obtain⟨h0,h1,h2⟩:=hd;unfold F6;refine Tot.ite (fun h => ?_) (fun h => ?_)
 ·exact Tot.some ⟨Int.le_refl _,hn,h0,h1,h2⟩
 ·obtain⟨k,hk⟩:∃ k:Nat,d.fAt=k:=⟨d.fAt.toNat,by omega⟩;have hlt:k<d.fL.length:=by simp at h;omega
  obtain⟨m0,m1⟩:=B2u d.fL[k] hn;rw [H1 (n:=d.fAt+1) (by omega) (by omega),H1 (n:=d.fAt+1-1) (by omega) (by omega)];refine Tot.bindIdx k (by omega) hlt (Tot.bindOf (B5g _ n hn hn') (Tot.some ⟨m0,m1,?_⟩));exact⟨by simp only;omega,by simp only;omega,h2⟩
theorem C3h (l:List Int) (hl:l.length≤9223372036854775807):DeckOk ⟨l,0⟩:=⟨Int.le_refl _,by simp only;omega,hl⟩
theorem B3r {o m p t:Int} {x:E5} {q:List B4} (hx:aR x) (hq:q.length≤2000) (hs:∀ s∈q,s.fASNs.length≤2000):Sm (C2.mk o q x m p t [] [] []) :=
 ⟨hx,hq,hs,by simp,by simp,by simp,fun x hx=>by cases hx⟩
theorem zA_R:aR zA:=⟨by decide,by decide⟩
theorem C3q:Sm noD:=B3r zA_R (by simp) (fun s hs=>by cases hs)
theorem Sm_z:Sm (C2.mk 0 [] zA 0 0 0 [] [] []):=B3r zA_R (by simp) (fun s hs=>by cases hs)
def zR:D5:=D5.mk zP 0 (C2.mk 0 [] zA 0 0 0 [] [] [])
theorem A6p {l:List A2} (hl:l.length≤100000):N6 l l=some true:=by
 refine Tot.eq ?_;unfold N6;refine Tot.iteF (by simp) ?_;refine Tot.bindRng l.length (fun i (_:Unit)=>(i:Int)) (fun _ _=>True) (fun x=>x = .inr ()) () rfl trivial (fun i _ hi _ => ?_) (fun _ _ => ?_) (fun x hx=>by subst hx;exact Tot.some rfl)
 ·unfold M2;refine Tot.iteT (decide_eq_true (by omega)) ?_;refine Tot.bindIdx i rfl hi ?_;refine Tot.bindIdx i rfl hi ?_;refine Tot.iteF (by simp) ?_;exact Tot.step () (C0 hi (by omega)) trivial
 ·unfold M2;refine Tot.iteF (decide_eq_false (by omega)) ?_;exact Tot.last rfl
theorem B4r {u:List A7} (hu:u.length≤4000000) (h:∀ x∈u,Sm x.fAttrs∧x.fWithdraw.length≤100000∧x.fAnnounce.length≤100000):A3e u u=some true:=by
 refine Tot.eq ?_;unfold A3e;refine Tot.iteF (by simp) ?_;refine Tot.bindRng u.length (fun i (_:Unit)=>(i:Int)) (fun _ _=>True) (fun x=>x = .inr ()) () rfl trivial (fun i _ hi _ => ?_) (fun _ _ => ?_) (fun x hx=>by subst hx;exact Tot.some rfl)
 ·obtain⟨h1,h2,h3⟩:=h _ (List.getElem_mem hi);unfold A1w;refine Tot.iteT (decide_eq_true (by omega)) ?_;refine Tot.jnR (fun m=>m=false) (fun j hj => ?_) (fun m hm => ?_)
  ·refine Tot.bindIdx i rfl hi (Tot.bindIdx i rfl hi ?_);refine Tot.bindOf (A6p h2) (Tot.iteF rfl ?_);refine Tot.bindIdx i rfl hi (Tot.bindIdx i rfl hi ?_);refine Tot.bindOf (A6p h3) (Tot.iteF rfl ?_);refine Tot.bindIdx i rfl hi (Tot.bindIdx i rfl hi ?_);have:J8 u[i].fAttrs u[i].fAttrs=some true:=by rw [B2b h1 h1,B5a]
   refine Tot.bindOf this ?_;exact hj _ rfl
  ·subst hm;refine Tot.iteF rfl ?_;exact Tot.step () (C0 hi (by omega)) trivial
 ·unfold A1w;refine Tot.iteF (decide_eq_false (by omega)) ?_;exact Tot.last rfl
theorem B5h {V:List A2→Bool}:∀ (l cur:List A2) (c:List A2),c∈ck V cur l→c.length≤cur.length+l.length
 | [],cur,c,h=>by simp [ck] at h;subst h;simp
 | p :: l,cur,c,h=>by
  simp only [ck] at h;split at h
  ·have:=B5h l _ c h;simp at this ⊢;omega
  ·rcases List.mem_cons.1 h with rfl | h
   ·simp
   ·have:=B5h l _ c h;simp at this ⊢;omega
theorem B1g {V:List A2→Bool} {l c:List A2} (h:c∈chunks V l):c.length≤l.length:=by
 cases l with
 | nil=>cases h
 | cons p l=>have:=B5h l [p] c h;simp at this ⊢;omega
theorem B0x {l:List A1} (h:Chs l):(packF l).length≤2000000:=by
 have hlen:=h.len;have hcl:=A32 bW (goneL l);have hgl:=A4i l;have hfl:=B5f l;have h3:((FO l).flatMap fun a=>(chunks (bA a) (sel a l)).map (uAa a)).length≤1000*(FO l).length:=B0i _ _ _ fun a _=>by
  have:=A32 (bA a) (sel a l);have:=A6o a l;rw [List.length_map];omega
 unfold packF;rw [List.length_append,List.length_map];omega
theorem B6w {l:List A1} (h:Chs l):∀ x∈packF l,Sm x.fAttrs∧x.fWithdraw.length≤100000∧x.fAnnounce.length≤100000:=by
 have hlen:=h.len;intro x hx;unfold packF at hx;rcases List.mem_append.1 hx with hx | hx
 ·obtain⟨c,hc,rfl⟩:=List.mem_map.1 hx;have:=B1g hc;have:=A4i l;exact⟨C3q,(by show c.length≤_;omega),by simp [uW]⟩
 ·obtain⟨a,ha,hx⟩:=List.mem_flatMap.1 hx;obtain⟨c,hc,rfl⟩:=List.mem_map.1 hx;have:=B1g hc;have:=A6o a l;exact⟨h.foD ha,by simp [uAa],(by show c.length≤_;omega)⟩
-- what lists cut into messages hold
section
variable {V:List A2→Bool}
end
structure rs (r:D5):Prop where
 sm:Sm r.fAttrs
 ad:aR r.fPrefix.fAddr
theorem copyRoute {r:D5} (h:rs r):X2 [r]=some [r]:=by
 obtain⟨p,f,a⟩:=r;unfold X2;rw [F7];simp [Q5,idx,B5b h.sm,chk,LIM,H1];rw [F7];simp [Q5]
theorem C1h:rs zR:=⟨Sm_z,zA_R⟩
theorem B3s {r:D5} (h:Sm r.fAttrs):L1 r r=some true:=by
 have ha:J8 r.fAttrs r.fAttrs=some true:=by rw [B2b h h,B5a]
 unfold L1;simp [jn,ha]
theorem B44 {r s:D5} (h:rs r) (k:rs s):Tot (L1 r s) (fun _=>True):=by
 unfold L1;refine Tot.jn (Tot.ite (fun _=>Tot.bindOf (B2b h.sm k.sm) (Tot.some trivial)) (fun _=>Tot.some trivial))
theorem B6x {l:List D5} (hl:l.length≤1000) (p:A2):Tot (A39 l p) (fun r=>(r.2=true→r.1∈l∧r.1.fPrefix=p)∧(r.2=false→r.1=zR)):=by
 unfold A39;refine Tot.bindRng l.length (fun i (_:Unit)=>(i:Int)) (fun _ _=>True) (fun x=>x = .inr ()∨∃ r∈l,r.fPrefix=p∧x = .inl r) () rfl trivial (fun i _ hi _ => ?_) (fun _ _ => ?_) (fun x hx => ?_)
 ·unfold A1h;refine Tot.iteT (decide_eq_true (by omega)) ?_;refine Tot.bindIdx i rfl hi ?_;refine Tot.ite (fun e => ?_) (fun _=>Tot.step () (C0 hi (by omega)) trivial);have e':peq l[i].fPrefix p=true:=e;exact Tot.stop (.inr ⟨l[i],List.getElem_mem hi,A28.1 e',rfl⟩)
 ·unfold A1h;refine Tot.iteF (decide_eq_false (by omega)) ?_;exact Tot.last (.inl rfl)
 ·rcases hx with rfl | ⟨r,h1,h2,rfl⟩
  ·exact Tot.some ⟨(fun e=>by cases e),fun _=>rfl⟩
  ·exact Tot.some ⟨fun _=>⟨h1,h2⟩,(fun e=>by cases e)⟩
theorem B7z {a b:List D5} (ha:∀ r∈a,rs r) (hb:∀ r∈b,rs r) (hla:a.length≤100) (hlb:b.length≤100):Tot (A2j a b) (fun ps=>ps.length≤a.length+b.length∧∀ p∈ps,aR p.fAddr):=by
 unfold A2j;refine Tot.chk (limB (by omega)) (Tot.chk (limB (by simp;omega)) ?_);have hab:∀ r∈a++b,rs r:=fun r hr=>by
  rcases List.mem_append.1 hr with h | h
  ·exact ha r h
  ·exact hb r h
 have hlen:(a++b).length=a.length+b.length:=List.length_append;refine Tot.bindRng (β:=List A2) (a++b).length (fun i out=>((i:Int),out)) (fun i out=>out.length≤i∧∀ p∈out,aR p.fAddr) (fun ps=>ps.length≤a.length+b.length∧∀ p∈ps,aR p.fAddr) [] rfl ⟨Nat.le_refl _,(fun p hp=>by cases hp)⟩ (fun i out hi hI => ?_) (fun out hI => ?_) (fun x hx=>Tot.some hx)
 ·obtain⟨h2,h3⟩:=hI;have hp:=(hab _ (List.getElem_mem hi)).ad;unfold Y8;refine Tot.iteT (decide_eq_true (show(i:Int)<((a++b).length:Int) by omega)) ?_;refine Tot.bindIdx i rfl hi (Tot.bindIdx i rfl hi ?_);generalize hP:(a++b)[i]=x at hp;refine Tot.bindLoop (fun s:Int=>∃ k:Nat,s=k∧k≤out.length) (fun s=>((out.length:Int)-s).toNat) (fun s:Int=>∃ k:Nat,s=k∧k≤out.length) ⟨0,rfl,Nat.zero_le _⟩ (fun s hs => ?_) (fun s hs => ?_)
  ·obtain⟨k,rfl,h4⟩:=hs;unfold A24;refine Tot.jnR (fun m=>m=true→k<out.length) (fun j hj => ?_) (fun m hm => ?_)
   ·refine Tot.ite (fun e => ?_) (fun e=>hj _ (fun e=>by cases e));have hk:k<out.length:=by have:=of_decide_eq_true e;simp only at this;omega
    refine Tot.bindIdx k rfl hk (Tot.bindIdx k rfl hk ?_);exact Tot.bindOf (B3i (h3 _ (List.getElem_mem hk)) hp) (hj _ fun _=>hk)
   ·refine Tot.ite (fun e => ?_) (fun e=>Tot.out ⟨k,rfl,h4⟩);have hk:=hm e;have hw:=C0 hk (n:=out.length) (by omega);exact Tot.next ⟨k+1,hw,hk⟩ (by rw [hw];omega)
  ·obtain⟨k,rfl,h4⟩:=hs;refine Tot.jnR (fun _=>True) (fun j hj => ?_) (fun m _ => ?_)
   ·refine Tot.ite (fun e=>hj _ trivial) (fun e => ?_);have hk:k<out.length:=by simp at e;omega
    exact Tot.bindIdx k rfl hk (Tot.bindIdx k rfl hk (hj _ trivial))
   ·refine Tot.jnR (fun m'=>m'.length≤i+1∧∀ p∈m',aR p.fAddr) (fun j hj => ?_) (fun m' hm'=>Tot.step m' (by rw [C0 hi (by omega)]) hm');refine Tot.ite (fun e => ?_) (fun e=>hj _ ⟨(show out.length≤i+1 by omega),h3⟩);have hkn:((k:Nat):Int).toNat=k:=by omega
    refine Tot.chk (by simp;omega) (Tot.chk (decide_eq_true (by show((k:Nat):Int).toNat+(out.length-((k:Nat):Int).toNat)≤out.length;omega)) (Tot.chk (limB (by simp;omega)) (Tot.chk (by simp;omega) (Tot.chk (limB (by simp;omega)) (Tot.chk (limB (by simp;omega)) ?_)))));refine hj _ ?_;simp only [hkn];have ht:(out.drop k).take (out.length-k)=out.drop k:=List.take_of_length_le (by simp);rw [ht];refine⟨by simp;omega,fun p hp' => ?_⟩;rcases List.mem_append.1 hp' with h7 | h7
    ·rcases List.mem_append.1 h7 with h7 | h7
     ·exact h3 p (List.mem_of_mem_take h7)
     ·rw [List.mem_singleton.1 h7];exact hp
    ·exact h3 p (List.mem_of_mem_drop h7)
 ·unfold Y8;refine Tot.iteF (decide_eq_false (show ¬ ((a++b).length:Int)<((a++b).length:Int) by omega)) ?_;exact Tot.last ⟨(by show out.length≤a.length+b.length;have:=hI.1;omega),hI.2⟩
theorem C1i {a b:List D5} (ha:∀ r∈a,rs r) (hb:∀ r∈b,rs r) (hla:a.length≤100) (hlb:b.length≤100) (to:Int):Tot (A4w to a b) (fun l=>l.length≤a.length+b.length∧∀ c∈l,sc c):=by
 unfold A4w;refine Tot.bindT (B7z ha hb hla hlb) fun ps hps => ?_;obtain⟨p2,p3⟩:=hps;refine Tot.bindRng (β:=List A1) ps.length (fun i out=>((i:Int),out)) (fun i out=>out.length≤i∧∀ c∈out,sc c) (fun l=>l.length≤a.length+b.length∧∀ c∈l,sc c) [] rfl ⟨Nat.le_refl _,(fun c hc=>by cases hc)⟩ (fun i out hi hI => ?_) (fun out hI => ?_) (fun x hx=>Tot.some hx)
 ·obtain⟨h1,h2⟩:=hI;unfold A1i;refine Tot.iteT (decide_eq_true (show(i:Int)<(ps.length:Int) by omega)) ?_;refine Tot.jnR (fun m=>m.length≤i+1∧∀ c∈m,sc c) (fun j hj => ?_) (fun m hm=>Tot.step m (by rw [C0 hi (by omega)]) hm);refine Tot.bindIdx i rfl hi ?_;refine Tot.bindT (B6x (by omega) _) fun x hx => ?_;refine Tot.bindT (B6x (by omega) _) fun y hy => ?_;have gx:rs x.1:=by
   cases e:x.2 with
   | true=>exact ha _ (hx.1 e).1
   | false=>rw [hx.2 e];exact C1h
  have gy:rs y.1:=by
   cases e:y.2 with
   | true=>exact hb _ (hy.1 e).1
   | false=>rw [hy.2 e];exact C1h
  refine Tot.jnR (fun _=>True) (fun j1 hj1 => ?_) (fun m _ => ?_)
  ·exact Tot.ite (fun e=>Tot.bindT (B44 gx gy) fun _ _=>hj1 _ trivial) (fun e=>hj1 _ trivial)
  ·refine Tot.ite (fun _=>hj _ ⟨(show out.length≤i+1 by omega),h2⟩) (fun _ => ?_);refine Tot.jnR rs (fun j2 hj2 => ?_) (fun r hr=>Tot.chk (limB (by simp;omega)) (hj _ ⟨(by simp;omega),fun c hc => ?_⟩))
   ·refine Tot.ite (fun e => ?_) (fun e=>hj2 _ C1h);refine Tot.bindOf (copyRoute gy) ?_;exact Tot.bindIdx 0 rfl (by simp) (hj2 _ gy)
   ·rcases List.mem_append.1 hc with hc | hc
    ·exact h2 c hc
    ·rw [List.mem_singleton.1 hc];exact⟨hr.sm,p3 _ (List.getElem_mem hi)⟩
 ·unfold A1i;refine Tot.iteF (decide_eq_false (show ¬ (ps.length:Int)<(ps.length:Int) by omega)) ?_;exact Tot.last ⟨(by show out.length≤_;have:=hI.1;omega),hI.2⟩
-- the deck
theorem C1j {k:Nat} (hk:k<8):Tot (R1 (k:Int)) (fun p=>aR p.fAddr):=by
 have h:k=0∨k=1∨k=2∨k=3∨k=4∨k=5∨k=6∨k=7:=by omega
 rcases h with rfl | rfl | rfl | rfl | rfl | rfl | rfl | rfl
 all_goals exact⟨_,rfl,by decide,by decide⟩
theorem C2p {n:Nat} (hn:101≤n∧n≤103) (v:Bool):Tot (S6 (n:Int) v) aR:=by
 have h:n=101∨n=102∨n=103:=by omega
 cases v
 all_goals rcases h with rfl | rfl | rfl
 all_goals exact⟨_,rfl,by decide,by decide⟩
theorem B1h (d:A9) (hd:DeckOk d) (to:Int):Tot (G5 d to) (fun r=>(r.1.length≤16∧∀ c∈r.1,sc c)∧DeckOk r.2):=by
 unfold G5;refine Tot.bindRng (β:=List D5×List D5×A9) 8 (fun i b=>((i:Int),b.1,b.2.1,b.2.2)) (fun i b=>((∀ r∈b.1,rs r)∧b.1.length≤i)∧((∀ r∈b.2.1,rs r)∧b.2.1.length≤i)∧DeckOk b.2.2) (fun p=>DeckOk p.1∧((∀ r∈p.2.1,rs r)∧p.2.1.length≤8)∧((∀ r∈p.2.2,rs r)∧p.2.2.length≤8)) ([],[],d) rfl ⟨⟨(fun r h=>by cases h),Nat.le_refl _⟩,⟨(fun r h=>by cases h),Nat.le_refl _⟩,hd⟩ (fun i b hi hI => ?_) (fun b hI => ?_) (fun p hp => ?_)
 ·obtain⟨la,lb,d⟩:=b;obtain⟨⟨a1,a2⟩,⟨b1,b2⟩,hd⟩:=hI;simp only at a1 a2 b1 b2 hd;unfold G7;refine Tot.iteT (decide_eq_true (show(i:Int)<8 by omega)) ?_;refine Tot.bindT (C1j hi) fun p hp => ?_;refine Tot.bindT (A55 d hd 3 (by omega) (by omega)) fun x1 h1 => ?_;refine Tot.bindOf B0u ?_;obtain⟨n,hn,hn'⟩:∃ n:Nat,w64 (101+x1.1)=(n:Int)∧101≤n∧n≤103:=by
   refine⟨(101+x1.1).toNat,?_,by omega,by omega⟩;rw [H1 (by omega) (by omega)];omega
  rw [hn];refine Tot.bindT (C2p hn' p.fAddr.fV6) fun x hx => ?_;refine Tot.bindT (A55 x1.2 h1.2.2 2 (by omega) (by omega)) fun x2 h2 => ?_;refine Tot.bindT (A55 x2.2 h2.2.2 4 (by omega) (by omega)) fun x3 h3 => ?_;have rkm:∀ m:Int,rs (D5.mk p n (C2.mk 0 [B4.mk false [(n:Int)]] x m (-1) (-1) [] [] [])):=fun m=>⟨B3r hx (by simp) (by simp),hp⟩;have r1:=rkm x2.1;have r5:=rkm 5;have app:∀ {l:List D5} {r:D5},(∀ r∈l,rs r)∧l.length≤i→rs r→(∀ q∈l++[r],rs q)∧(l++[r]).length≤i+1:=fun {l r} hl hr=>⟨fun q hq=>by
   rcases List.mem_append.1 hq with hq | hq
   ·exact hl.1 q hq
   ·rw [List.mem_singleton.1 hq];exact hr,by simp;omega⟩
  have keep:∀ {l:List D5},(∀ r∈l,rs r)∧l.length≤i→(∀ q∈l,rs q)∧l.length≤i+1:=fun hl=>⟨hl.1,by omega⟩;refine Tot.jnR (fun m=>((∀ r∈m.1,rs r)∧m.1.length≤i+1)∧((∀ r∈m.2,rs r)∧m.2.length≤i+1)) (fun j hj => ?_) (fun m hm=>Tot.step (m.1,m.2,x3.2) (by rw [C0 hi (by omega)]) ⟨hm.1,hm.2,h3.2.2⟩);refine Tot.ite (fun _=>Tot.chk (limB (by simp;omega)) (hj _ ⟨keep ⟨a1,a2⟩,app ⟨b1,b2⟩ r1⟩)) (fun _ => ?_);refine Tot.ite (fun _=>Tot.chk (limB (by simp;omega)) (hj _ ⟨app ⟨a1,a2⟩ r1,keep ⟨b1,b2⟩⟩)) (fun _ => ?_);refine Tot.ite (fun _=>Tot.chk (limB (by simp;omega)) (Tot.chk (limB (by simp;omega)) (hj _ ⟨app ⟨a1,a2⟩ r5,app ⟨b1,b2⟩ r1⟩))) (fun _ => ?_);exact hj _ ⟨keep ⟨a1,a2⟩,keep ⟨b1,b2⟩⟩
 ·unfold G7;refine Tot.iteF (decide_eq_false (show ¬ ((8:Nat):Int)<8 by decide)) ?_;exact Tot.last ⟨hI.2.2,hI.1,hI.2.1⟩
 ·refine Tot.bindT (C1i hp.2.2.1 hp.2.1.1 (by omega) (by omega) to) fun r hr=>Tot.some ⟨⟨(by have:=hp.2.1.2;have:=hp.2.2.2;have:=hr.1;show r.length≤16;omega),hr.2⟩,hp.1⟩
theorem B0y {l:List A1} (hl:l.length≤4000000) (h:∀ c∈l,Sm c.fRoute.fAttrs):U2 l l=some true:=by
 refine Tot.eq ?_;unfold U2;refine Tot.iteF (by simp) ?_;refine Tot.bindRng l.length (fun i (_:Unit)=>(i:Int)) (fun _ _=>True) (fun x=>x = .inr ()) () rfl trivial (fun i _ hi _ => ?_) (fun _ _ => ?_) (fun x hx=>by subst hx;exact Tot.some rfl)
 ·unfold P3;refine Tot.iteT (decide_eq_true (by omega)) ?_;refine Tot.jnR (fun m=>m=false) (fun j hj => ?_) (fun m hm=>by subst hm;exact Tot.iteF rfl (Tot.step () (C0 hi (by omega)) trivial));refine Tot.bindIdx i rfl hi (Tot.bindIdx i rfl hi (Tot.iteF (by simp) ?_));refine Tot.bindIdx i rfl hi (Tot.bindIdx i rfl hi (Tot.iteF (by simp) ?_));refine Tot.bindIdx i rfl hi (Tot.bindIdx i rfl hi (Tot.iteF (by simp) ?_));refine Tot.bindIdx i rfl hi (Tot.bindIdx i rfl hi ?_);exact Tot.bindOf (B3s (h _ (List.getElem_mem hi))) (hj _ rfl)
 ·unfold P3;refine Tot.iteF (decide_eq_false (by omega)) ?_;exact Tot.last rfl
-- raw changes
def rl {α:Type} (q:α→Prop) (x:List α):Prop:=(∀ y∈x,q y)∧x.length≤maxLen∧x.length≤1048576
abbrev U64 (x:Int):Prop:=IntKind.u64.min≤x∧x≤IntKind.u64.max
def rAddr (x:E5):Prop:=True∧U64 x.fHi∧U64 x.fLo∧True
def rPfx (x:A2):Prop:=rAddr x.fAddr∧I64 x.fLen∧True
def rSeg (x:B4):Prop:=True∧rl I64 x.fASNs∧True
def rCom (x:B5):Prop:=I64 x.fA∧I64 x.fB∧True
def rLar (x:E7):Prop:=I64 x.fA∧I64 x.fB∧I64 x.fC∧True
def rUnk (x:A3):Prop:=I64 x.fFlags∧I64 x.fType∧rl (fun y:Int=>IntKind.u8.min≤y∧y≤IntKind.u8.max) x.fData∧True
def rAtt (x:C2):Prop:=I64 x.fOrigin∧rl rSeg x.fPath∧rAddr x.fNext∧I64 x.fMED∧I64 x.fPref∧I64 x.fOTC∧rl rCom x.fCommunities∧rl rLar x.fLarge∧rl rUnk x.fOther∧True
def rRou (x:D5):Prop:=rPfx x.fPrefix∧I64 x.fFrom∧rAtt x.fAttrs∧True
def rChg (x:A1):Prop:=I64 x.fTo∧rPfx x.fPrefix∧True∧rRou x.fRoute∧True
theorem B8t {x:E5} (h:rAddr x):aR x:=by
 obtain⟨_,h1,h2,_⟩:=h;have e1:IntKind.u64.min=0:=rfl;have e2:IntKind.u64.max=18446744073709551615:=rfl;unfold U64 at h1 h2;rw [e1,e2] at h1 h2;exact⟨⟨h1.1,by omega⟩,h2.1,by omega⟩
theorem B8u {s:B4}:∀ {p:List B4},s∈p→s.fASNs.length≤nAs p
 | t :: p,h=>by
  simp only [nAs];rcases List.mem_cons.1 h with h | h
  ·rw [h];omega
  ·have:=B8u h;omega
def dts:List A3→Nat
 | []=>0
 | x :: l=>x.fData.length+dts l
theorem B8v:∀ p q:List A3,dts (p++q)=dts p+dts q
 | [],q=>by simp [dts]
 | s :: p,q=>by simp only [List.cons_append,dts,B8v p q];omega
theorem B8w {x:A3}:∀ {p:List A3},x∈p→x.fData.length≤dts p
 | t :: p,h=>by
  simp only [dts];rcases List.mem_cons.1 h with h | h
  ·rw [h];omega
  ·have:=B8w h;omega
theorem C1k {n:Nat}:∀ {p:List B4},(∀ s∈p,s.fASNs.length≤n)→nAs p≤n*p.length
 | [],_=>by simp [nAs]
 | s :: p,h=>by
  have h1:=h s (List.mem_cons_self ..);have h2:=C1k fun t ht=>h t (List.mem_cons_of_mem _ ht);simp only [nAs,List.length_cons,Nat.mul_succ];omega
theorem C1l {n:Nat}:∀ {p:List A3},(∀ s∈p,s.fData.length≤n)→dts p≤n*p.length
 | [],_=>by simp [dts]
 | s :: p,h=>by
  have h1:=h s (List.mem_cons_self ..);have h2:=C1l fun t ht=>h t (List.mem_cons_of_mem _ ht);simp only [dts,List.length_cons,Nat.mul_succ];omega
theorem B9z {a:C2} (h:rAtt a):Tot (L0 a) (fun b=>b=true→Sm a):=by
 obtain⟨_,hp,hn,_,_,_,hc,hl,ho,_⟩:=h;have hseg:∀ s∈a.fPath,s.fASNs.length≤1048576:=fun s hs=>(hp.1 s hs).2.1.2.2;have hdat:∀ x∈a.fOther,x.fData.length≤1048576∧∀ y∈x.fData,byte y:=fun x hx=>⟨(ho.1 x hx).2.2.1.2.2,fun y hy=>by
  have:=(ho.1 x hx).2.2.1.1 y hy;have e1:IntKind.u8.min=0:=rfl;have e2:IntKind.u8.max=255:=rfl;rw [e1,e2] at this;unfold byte;omega⟩
 have p1:=hp.2.2;have c1:=hc.2.2;have l1:=hl.2.2;have o1:=ho.2.2;have part:∀ k,nAs (a.fPath.take k)≤1048576*1048576:=fun k=>by
  have:=C1k (p:=a.fPath.take k) fun s hs=>hseg s (List.mem_of_mem_take hs);refine Nat.le_trans this (Nat.mul_le_mul_left _ ?_);rw [List.length_take];omega
 have part2:∀ k,dts (a.fOther.take k)≤1048576*1048576:=fun k=>by
  have:=C1l (p:=a.fOther.take k) fun s hs=>(hdat s (List.mem_of_mem_take hs)).1;refine Nat.le_trans this (Nat.mul_le_mul_left _ ?_);rw [List.length_take];omega
 unfold L0;rw [H1 (n:=(a.fCommunities.length:Int)+(a.fLarge.length:Int)) (by omega) (by omega),H1 (by omega) (by omega)];refine Tot.bindRng a.fPath.length (fun k (_:Unit)=>(((a.fCommunities.length+a.fLarge.length+a.fOther.length+k+nAs (a.fPath.take k):Nat):Int),(k:Int))) (fun _ _=>True) (fun x=>x=((a.fCommunities.length+a.fLarge.length+a.fOther.length+a.fPath.length+nAs a.fPath:Nat):Int)) () (by simp [nAs]) trivial (fun k _ hk _ => ?_) (fun _ _ => ?_) (fun x hx => ?_)
 ·unfold I8;have q1:=part k;have q2:=part (k+1);have hsn:nAs (a.fPath.take (k+1))=nAs (a.fPath.take k)+a.fPath[k].fASNs.length:=by rw [F5 hk,A7m];simp [nAs]
  refine Tot.iteT (by simpa using hk) (Tot.bindIdx k rfl hk ?_);refine Tot.step () (Prod.ext ?_ (C0 hk (by omega))) trivial;simp only;rw [H1 (n:=(1:Int)+_) (by omega) (by omega),H1 (by omega) (by omega),hsn];omega
 ·unfold I8;refine Tot.iteF (by simp) (Tot.last ?_);rw [List.take_length]
 subst hx;have q0:=part a.fPath.length;rw [List.take_length] at q0;refine Tot.bindRng a.fOther.length (fun k (_:Unit)=>(((a.fCommunities.length+a.fLarge.length+a.fOther.length+a.fPath.length+nAs a.fPath+dts (a.fOther.take k):Nat):Int),(k:Int))) (fun _ _=>True) (fun x=>x=((a.fCommunities.length+a.fLarge.length+a.fOther.length+a.fPath.length+nAs a.fPath+dts a.fOther:Nat):Int)) () (by simp [dts]) trivial (fun k _ hk _ => ?_) (fun _ _ => ?_) (fun x hx => ?_)
 ·unfold I9;have q1:=part2 k;have q2:=part2 (k+1);have hsn:dts (a.fOther.take (k+1))=dts (a.fOther.take k)+a.fOther[k].fData.length:=by rw [F5 hk,B8v];simp [dts]
  refine Tot.iteT (by simpa using hk) (Tot.bindIdx k rfl hk ?_);refine Tot.step () (Prod.ext ?_ (C0 hk (by omega))) trivial;simp only;rw [H1 (by omega) (by omega),hsn];omega
 ·unfold I9;refine Tot.iteF (by simp) (Tot.last ?_);rw [List.take_length]
 subst hx;refine Tot.some fun e => ?_;have e':=of_decide_eq_true e;exact⟨B8t hn,by omega,fun s hs=>by have:=B8u hs;omega,by omega,by omega,by omega,fun x hx=>⟨by have:=B8w hx;omega,(hdat x hx).2⟩⟩
instance decP:DecidableEq A2:=fun p q=>if h:peq p q=true then isTrue (A28.1 h) else isFalse fun e=>h (A28.2 e)
theorem C2q (p q:A2):keq33 p q=peq p q:=rfl
theorem keyP:KeyLaw keq33:=fun a b=>by rw [C2q];exact A28
theorem C1m {c:A1} (h:sc c):A36 c.fRoute=some c.fRoute:=by
 unfold A36;exact Q8 (B6k h.sm) rfl
theorem B0z {l:List A1} (h:∀ c∈l,sc c) (hn:l.length≤100000):A0y l=some l:=by
 refine Tot.eq ?_;unfold A0y;refine Tot.bindRng (β:=Unit) l.length (fun i _=>((i:Int),l.take i)) (fun _ _=>True) (fun r=>r=l) () (by simp) trivial (fun i _ hi _ => ?_) (fun _ _ => ?_) (fun x hx=>Tot.some hx)
 ·unfold Y7;refine Tot.iteT (decide_eq_true (show(i:Int)<(l.length:Int) by omega)) ?_;refine Tot.bindIdx i rfl hi ?_;refine Tot.bindOf (C1m (h _ (List.getElem_mem hi))) ?_;refine Tot.chk (limB (by simp;omega)) ?_;refine Tot.step () ?_ trivial;rw [C0 hi (by omega),F5 hi]
 ·unfold Y7;refine Tot.iteF (decide_eq_false (show ¬ (l.length:Int)<(l.length:Int) by omega)) ?_;exact Tot.last (List.take_of_length_le (Nat.le_refl _))
theorem A9u {l:List A1} (h:∀ c∈l,sc c) (hn:l.length≤100000):U6 l=some l:=B0z h hn
theorem A7f {l:List A1} (h:∀ c∈l,sc c) (hn:l.length≤100000):T1 l=some l:=by
 refine Tot.eq ?_;unfold T1;refine Tot.bindRng (β:=Unit) l.length (fun i _=>((i:Int),l.take i)) (fun _ _=>True) (fun r=>r=l) () (by simp) trivial (fun i _ hi _ => ?_) (fun _ _ => ?_) (fun x hx=>Tot.some hx)
 ·unfold Z4;refine Tot.iteT (decide_eq_true (show(i:Int)<(l.length:Int) by omega)) ?_;refine Tot.bindIdx i rfl hi ?_;refine Tot.bindOf (B5b (h _ (List.getElem_mem hi)).sm) ?_;refine Tot.chk (limB (by simp;omega)) ?_;refine Tot.step () ?_ trivial;rw [C0 hi (by omega),F5 hi]
 ·unfold Z4;refine Tot.iteF (decide_eq_false (show ¬ (l.length:Int)<(l.length:Int) by omega)) ?_;exact Tot.last (List.take_of_length_le (Nat.le_refl _))
theorem B80 {l:List A1} (h:∀ c∈l,sc c) (hn:l.length≤100000):A2q l=some l:=A7f h hn
def pf (l:List A1):List A2:=l.map (·.fPrefix)
theorem A7p {l:List A1} {i:Nat} (h:i<(pf l).length):(pf l)[i]=(l[i]'(by simpa [pf] using h)).fPrefix:=by simp [pf]
structure bok (b:D9):Prop where
 b0:0≤b.fBurst∧b.fBurst≤1048576
 r0:0≤b.fRate∧b.fRate≤b.fBurst
 l0:0≤b.fLevel∧b.fLevel≤b.fBurst
structure Qs (q:C3):Prop where
 all:∀ c∈q.fPending,sc c
 len:q.fPending.length≤300
structure qv (q:C3):Prop where
 bkt:bok q.fBucket
 all:∀ c∈q.fPending,gd c
 nod:(pf q.fPending).Nodup
open Classical in
noncomputable def qvB (q:C3):Bool:=decide (qv q)
theorem A4p {q:C3}:qvB q=true↔qv q:=by unfold qvB;simp
theorem B8x {c:A1} (h:sc c):A22 c=some (gdB c):=by
 have hS:∀ x∈[c],sc x:=fun x hx=>by rw [List.mem_singleton.1 hx];exact h
 unfold A22;refine Q8 (B8s hS (by simp)) ?_;congr 1;rw [Bool.eq_iff_iff,A0h,beq_iff_eq];unfold PF;split
 ·rename_i ho;exact⟨fun _=>ho.all c (List.mem_singleton.2 rfl),fun _=>rfl⟩
 ·rename_i ho;refine⟨fun e=>by simp at e,fun hg=>absurd ⟨fun x hx => ?_,fun i hi=>absurd hi (by simp)⟩ ho⟩;rw [List.mem_singleton.1 hx];exact hg
theorem mvalid (b:D9):Tot (A4s b) (fun r=>r=true↔bok b):=by
 unfold A4s;refine Tot.some ?_;simp only [Bool.and_eq_true,decide_eq_true_eq];exact⟨fun h=>⟨by omega,by omega,by omega⟩,fun h=>by have:=h.b0;have:=h.r0;have:=h.l0;omega⟩
theorem B3t {l:List A2} (hn:l.Nodup) {i:Nat} (hi:i<l.length):l[i]∉l.take i:=fun hm=>by
 rw [List.mem_take_iff_getElem] at hm;obtain⟨j,hj,e⟩:=hm;have:=(List.getElem_inj hn).1 e;omega
theorem B8y {l:List A1} {i:Nat} (hi:i<l.length):pf (l.take (i+1))=pf (l.take i)++[l[i].fPrefix]:=by
 unfold pf;rw [F5 hi,List.map_append];rfl
theorem B6y {l:List A1} (h:(pf l).Nodup) (n:Nat):(pf (l.take n)).Nodup:=by
 unfold pf at *;rw [List.map_take];exact h.sublist (List.take_sublist _ _)
def DM (d:List (A2×Bool)) (S:List A2):Prop:=∀ p,(mget keq33 d p).getD false=decide (p∈S)
theorem DM.put {d:List (A2×Bool)} {S:List A2} (h:DM d S) (p:A2):DM (mput keq33 d p true) (S++[p]):=fun q=>by
 rw [A4d keyP]
 by_cases e:q=p
 ·subst e;simp
 ·rw [if_neg e,h q];simp [e]
theorem DM.nil:DM [] []:=fun p=>rfl
structure vT (l:List A1) (i:Nat):Prop where
 all:∀ (j:Nat) (h:j<l.length),j<i→gd l[j]
 nod:(pf (l.take i)).Nodup
theorem vT.succ {l:List A1} {i:Nat} (h:vT l i) (hi:i<l.length) (hg:gd l[i]) (hn:l[i].fPrefix∉pf (l.take i)):vT l (i+1) :=
 ⟨fun j hj hji=>by
  by_cases e:j=i
  ·subst e;exact hg
  ·exact h.all j hj (by omega),by
  rw [B8y hi,List.nodup_append];exact⟨h.nod,by simp,fun a ha b hb e=>by rw [List.mem_singleton.1 hb] at e;rw [e] at ha;exact hn ha⟩⟩
theorem vT.zero {l:List A1}:vT l 0:=⟨fun _ _ h=>absurd h (by omega),by simp [pf]⟩
theorem vT.full {q:C3} (h:vT q.fPending q.fPending.length) (hb:bok q.fBucket):qv q:=⟨hb,fun c hc=>by
 obtain⟨i,hi,rfl⟩:=List.getElem_of_mem hc;exact h.all i hi hi,by have:=h.nod;rwa [List.take_of_length_le (Nat.le_refl _)] at this⟩
theorem C2r {q:C3} (h:qv q) {i:Nat} (hi:i<q.fPending.length):q.fPending[i].fPrefix∉pf (q.fPending.take i):=by
 have hpl:(pf q.fPending).length=q.fPending.length:=by simp [pf]
 have:=B3t h.nod (i:=i) (by omega);rw [A7p] at this;unfold pf at this ⊢;rwa [List.map_take]
theorem qvalid {q:C3} (h:Qs q):A2x q=some (qvB q):=by
 have hlen:=h.len;refine A54 ?_ A4p;unfold A2x;refine Tot.bindT (mvalid q.fBucket) fun b hb => ?_;refine Tot.ite (fun e=>Tot.some ⟨(fun e=>by cases e),fun hq => ?_⟩) (fun e => ?_)
 ·rw [hb.2 hq.bkt] at e;simp at e;omega
 have hbk:bok q.fBucket:=hb.1 (by cases b<;>simp at e ⊢);refine Tot.bindRng (β:=List (A2×Bool)) q.fPending.length (fun i m=>((i:Int),m)) (fun i m=>DM m (pf (q.fPending.take i))∧vT q.fPending i) (fun x=>(x = .inl ()∧¬ qv q)∨(x = .inr ()∧qv q)) [] rfl ⟨by simpa [pf] using DM.nil,vT.zero⟩ (fun i m hi hI => ?_) (fun m hI => ?_) (fun x hx => ?_)
 ·unfold A2h;refine Tot.iteT (decide_eq_true (show(i:Int)<(q.fPending.length:Int) by omega)) ?_;refine Tot.bindIdx i rfl hi ?_;have hsc:=h.all _ (List.getElem_mem hi);refine Tot.jnR (fun b=>(b=true→¬ qv q)∧(b=false→vT q.fPending (i+1))) (fun j hj => ?_) (fun b hb => ?_)
  ·refine Tot.ite (fun e=>hj _ ⟨fun _ hq => ?_,fun e'=>by first | (rw [e] at e';cases e') | cases e'⟩) (fun e => ?_)
   ·rw [hI.1] at e;exact C2r hq hi (of_decide_eq_true e)
   ·rw [hI.1] at e;have hn:=of_decide_eq_false e;refine Tot.bindOf (B8x hsc) (hj _ ⟨fun e hq => ?_,fun e => ?_⟩)
    ·rw [A0h.2 (hq.all _ (List.getElem_mem hi))] at e;cases e
    ·exact hI.2.succ hi (A0h.1 (by simpa using e)) hn
  ·refine Tot.ite (fun e=>Tot.stop (.inl ⟨rfl,hb.1 e⟩)) (fun e => ?_);refine Tot.step _ (Prod.ext (C0 hi (by omega)) rfl) ⟨?_,hb.2 e⟩;rw [B8y hi];exact hI.1.put _
 ·unfold A2h;refine Tot.iteF (decide_eq_false (show ¬ (q.fPending.length:Int)<(q.fPending.length:Int) by omega)) ?_;exact Tot.last (.inr ⟨rfl,hI.2.full hbk⟩)
 ·rcases hx with ⟨rfl,hx⟩ | ⟨rfl,hx⟩
  ·exact Tot.some ⟨(fun e=>by cases e),fun hq=>absurd hq hx⟩
  ·exact Tot.some ⟨fun _=>hx,fun _=>rfl⟩
theorem rvalidq {q:C3} (h:Qs q):A0f q=some (qvB q):=by
 have hlen:=h.len;refine A54 ?_ A4p;unfold A0f;refine Tot.bindT (show Tot (A5l q.fBucket) (fun r=>r=true↔bok q.fBucket) from mvalid q.fBucket) fun b hb => ?_;refine Tot.ite (fun e=>Tot.some ⟨(fun e=>by cases e),fun hq => ?_⟩) (fun e => ?_)
 ·rw [hb.2 hq.bkt] at e;simp at e;omega
 have hbk:bok q.fBucket:=hb.1 (by cases b<;>simp at e ⊢);refine Tot.bindRng (β:=Unit) q.fPending.length (fun i _=>(i:Int)) (fun i _=>vT q.fPending i) (fun x=>(x = .inl ()∧¬ qv q)∨(x = .inr ()∧qv q)) () rfl vT.zero (fun i _ hi hI => ?_) (fun _ hI => ?_) (fun x hx => ?_)
 ·unfold A0u;refine Tot.iteT (decide_eq_true (by omega)) ?_;refine Tot.bindIdx i rfl hi ?_;have hsc:=h.all _ (List.getElem_mem hi);refine Tot.bindOf (B5d hsc) ?_;refine Tot.ite (fun e=>Tot.stop (.inl ⟨rfl,fun hq => ?_⟩)) (fun e => ?_)
  ·rw [A0h.2 (hq.all _ (List.getElem_mem hi))] at e;cases e
  have hg:gd q.fPending[i]:=A0h.1 (by simpa using e);have hin:((i:Nat):Int).toNat=i:=by omega
  refine Tot.chk (by simp;omega) ?_;have hlt:((q.fPending.take ((i:Nat):Int).toNat).drop 0).length=i:=by rw [hin];simp;omega
  refine Tot.bindRng (β:=Unit) i (fun j _=>(j:Int)) (fun j _=>∀ (t:Nat) (ht:t<q.fPending.length),t<j→q.fPending[t].fPrefix≠q.fPending[i].fPrefix) (fun r=>(r = .inl ()∧¬ qv q)∨(r = .inr ()∧∀ (t:Nat) (ht:t<q.fPending.length),t<i→q.fPending[t].fPrefix≠q.fPending[i].fPrefix)) () rfl (fun t _ h=>absurd h (by omega)) (fun j _ hj hJ => ?_) (fun _ hJ => ?_) (fun x hx => ?_)
  ·unfold A0t;refine Tot.iteT (decide_eq_true (by rw [hlt];omega)) ?_;refine Tot.bindIdx j rfl (by rw [hlt];exact hj) ?_;have e1:((q.fPending.take ((i:Nat):Int).toNat).drop 0)[j]'(by rw [hlt];exact hj)=q.fPending[j]'(by omega):=by simp
   rw [e1];have hp:peq (q.fPending[j]'(by omega)).fPrefix q.fPending[i].fPrefix=true↔(q.fPending[j]'(by omega)).fPrefix=q.fPending[i].fPrefix:=A28;refine Tot.ite (fun e=>Tot.stop (.inl ⟨rfl,fun hq => ?_⟩)) (fun e=>Tot.step () (C0 hj (by omega)) fun t ht htj => ?_)
   ·have e2:=hp.1 e;have h3:(pf q.fPending)[j]'(by simp [pf];omega)=(pf q.fPending)[i]'(by simp [pf];omega):=by simpa [pf] using e2
    have:=(List.getElem_inj hq.nod).1 h3;omega
   ·by_cases htj':t=j
    ·subst htj';intro e2;have:=hp.2 e2;exact absurd (this.symm.trans e) (by simp)
    ·exact hJ t ht (by omega)
  ·unfold A0t;refine Tot.iteF (decide_eq_false (by rw [hlt];omega)) ?_;exact Tot.last (.inr ⟨rfl,hJ⟩)
  ·rcases hx with ⟨rfl,hx⟩ | ⟨rfl,hx⟩
   ·exact Tot.stop (.inl ⟨rfl,hx⟩)
   ·refine Tot.step () (C0 hi (by omega)) (hI.succ hi hg fun hm => ?_);unfold pf at hm;obtain⟨c,hc,e2⟩:=List.mem_map.1 hm;rw [List.mem_take_iff_getElem] at hc;obtain⟨t,ht,rfl⟩:=hc;exact hx t (by omega) (by omega) e2
 ·unfold A0u;refine Tot.iteF (decide_eq_false (by omega)) ?_;exact Tot.last (.inr ⟨rfl,hI.full hbk⟩)
 ·rcases hx with ⟨rfl,hx⟩ | ⟨rfl,hx⟩
  ·exact Tot.some ⟨(fun e=>by cases e),fun hq=>absurd hq hx⟩
  ·exact Tot.some ⟨fun _=>hx,fun _=>rfl⟩
def putC (out:List A1) (c:A1):List A1:=if c.fPrefix∈pf out then out.map (fun d=>if d.fPrefix=c.fPrefix then c else d) else out++[c]
def pushF (out l:List A1):List A1:=l.foldl putC out
theorem B8z (out:List A1) (c:A1):pf (putC out c)=if c.fPrefix∈pf out then pf out else pf out++[c.fPrefix]:=by
 unfold putC
 by_cases h:c.fPrefix∈pf out
 ·rw [if_pos h,if_pos h];unfold pf;rw [List.map_map];refine List.map_congr_left fun d _ => ?_;simp only [Function.comp];split
  ·rename_i e;exact e.symm
  ·rfl
 ·rw [if_neg h,if_neg h];simp [pf]
theorem C1n {out:List A1} (c:A1) (h:(pf out).Nodup):(pf (putC out c)).Nodup:=by
 rw [B8z];split
 ·exact h
 ·rename_i hn;rw [List.nodup_append];exact⟨h,by simp,fun a ha b hb e=>by cases List.mem_singleton.1 hb;subst e;exact hn ha⟩
theorem B6z {out:List A1} {c d:A1} (h:d∈putC out c):d∈out∨d=c:=by
 unfold putC at h;split at h
 ·obtain⟨e,he,rfl⟩:=List.mem_map.1 h;split
  ·exact .inr rfl
  ·exact .inl he
 ·rcases List.mem_append.1 h with h | h
  ·exact .inl h
  ·exact .inr (List.mem_singleton.1 h)
theorem B70 (out:List A1) (c:A1):out.length≤(putC out c).length∧(putC out c).length≤out.length+1:=by
 unfold putC;split<;>simp
theorem B90 {out:List A1} (h:(pf out).Nodup) {c:A1} {j:Nat} (hj:j<out.length) (e:out[j].fPrefix=c.fPrefix):out.set j c=putC out c:=by
 have hm:c.fPrefix∈pf out:=by rw [← e];exact List.mem_map.2 ⟨_,List.getElem_mem hj,rfl⟩
 unfold putC;rw [if_pos hm];refine List.ext_getElem (by simp) fun i h1 h2 => ?_;rw [List.getElem_set,List.getElem_map];have hi:i<out.length:=by simpa using h1
 by_cases hij:j=i
 ·subst hij;rw [if_pos rfl,if_pos e]
 ·rw [if_neg hij,if_neg];intro e';have h3:(pf out)[j]'(by simpa [pf] using hj)=(pf out)[i]'(by simpa [pf] using hi):=by simp [pf,e,e']
  exact hij ((List.getElem_inj h).1 h3)
theorem B71 {out:List A1} {c:A1} (h:c.fPrefix∉pf out):putC out c=out++[c]:=by unfold putC;rw [if_neg h]
theorem A7q (out l:List A1) (c:A1):pushF out (l++[c])=putC (pushF out l) c:=by unfold pushF;rw [List.foldl_append];rfl
theorem B72 {out:List A1} (h1:(pf out).Nodup) (h2:∀ c∈out,sc c):∀ l:List A1,(∀ c∈l,sc c)→(pf (pushF out l)).Nodup∧(∀ c∈pushF out l,sc c)∧(pushF out l).length≤out.length+l.length:=by
 refine A65 (fun _=>⟨h1,h2,by simp [pushF]⟩) (fun l c ih hl => ?_);obtain⟨a1,a2,a3⟩:=ih fun x hx=>hl x (List.mem_append_left _ hx);rw [A7q];refine⟨C1n c a1,fun d hd => ?_,?_⟩
 ·rcases B6z hd with hd | rfl
  ·exact a2 d hd
  ·exact hl _ (List.mem_append_right _ (List.mem_singleton.2 rfl))
 ·have:=(B70 (pushF out l) c).2;simp;omega
def PM (m:List (A2×Int)) (l:List A1):Prop:=(∀ (j:Nat) (h:j<l.length),mget keq33 m l[j].fPrefix=some (j:Int))∧∀ p,p∉pf l→mget keq33 m p=none
theorem PM.snoc {m:List (A2×Int)} {l:List A1} (h:PM m l) {c:A1} (hc:c.fPrefix∉pf l):PM (mput keq33 m c.fPrefix (l.length:Int)) (l++[c]):=by
 refine⟨fun j hj => ?_,fun p hp => ?_⟩
 ·rw [A4d keyP]
  by_cases hjl:j<l.length
  ·rw [List.getElem_append_left hjl,if_neg,h.1 j hjl];intro e;exact hc (by rw [← e];exact List.mem_map.2 ⟨_,List.getElem_mem hjl,rfl⟩)
  ·have:j=l.length:=by simp at hj;omega
   subst this;simp
 ·rw [A4d keyP,if_neg,h.2 p]
  ·intro hm;exact hp (by simp only [pf,List.map_append];exact List.mem_append_left _ hm)
  ·rintro rfl;exact hp (by simp [pf])
theorem PM.keep {m:List (A2×Int)} {l l':List A1} (h:PM m l) (e:pf l'=pf l):PM m l':=by
 have hl:l'.length=l.length:=by have:=congrArg List.length e;simpa [pf] using this
 refine⟨fun j hj => ?_,fun p hp=>h.2 p (by rw [← e];exact hp)⟩;have h1:(pf l')[j]'(by simpa [pf] using hj)=(pf l)[j]'(by simp [pf];omega):=by simp only [e]
 have h2:l'[j].fPrefix=(l[j]'(by omega)).fPrefix:=by simpa [pf] using h1
 rw [h2];exact h.1 j (by omega)
def allgd (a:List A1):Prop:=∀ c∈a,gd c
theorem goods {l:List A1} (h:∀ c∈l,sc c) (hn:l.length≤100000):Tot (P1 l) (fun b=>b=true↔¬ allgd l):=by
 unfold P1 A0a;refine Tot.bindT (P':=fun r=>(r = -1∧allgd l)∨(0≤r∧¬ allgd l)) ?_ fun r hr => ?_
 ·refine Tot.bindRng (β:=Unit) l.length (fun i _=>(i:Int)) (fun i _=>∀ (j:Nat) (hj:j<l.length),j<i→gd l[j]) (fun r=>(r = .inr ()∧allgd l)∨∃ i:Nat,r = .inl (i:Int)∧¬ allgd l) () rfl (fun j _ h=>absurd h (by omega)) (fun i _ hi hI => ?_) (fun _ hI => ?_) (fun x hx => ?_)
  ·unfold P0;refine Tot.iteT (decide_eq_true (by omega)) ?_;refine Tot.bindIdx i rfl hi ?_;have:A4v l[i]=some (!gdB l[i]):=by unfold A4v;exact Q8 (B8x (h _ (List.getElem_mem hi))) rfl
   refine Tot.bindOf this ?_;refine Tot.ite (fun e=>Tot.stop (.inr ⟨i,rfl,fun hg => ?_⟩)) (fun e=>Tot.step () (C0 hi (by omega)) fun j hj hji => ?_)
   ·rw [A0h.2 (hg _ (List.getElem_mem hi))] at e;cases e
   ·by_cases e2:j=i
    ·subst e2;exact A0h.1 (by simpa using e)
    ·exact hI j hj (by omega)
  ·unfold P0;refine Tot.iteF (decide_eq_false (by omega)) ?_;refine Tot.last (.inl ⟨rfl,fun c hc => ?_⟩);obtain⟨j,hj,rfl⟩:=List.getElem_of_mem hc;exact hI j hj hj
  ·rcases hx with ⟨rfl,hx⟩ | ⟨i,rfl,hx⟩
   ·exact Tot.some (.inl ⟨rfl,hx⟩)
   ·exact Tot.some (.inr ⟨by omega,hx⟩)
 ·rcases hr with ⟨rfl,hr⟩ | ⟨hr0,hr⟩
  ·exact Tot.some ⟨fun e=>by simp at e,fun hc=>absurd hr hc⟩
  ·exact Tot.some ⟨fun _=>hr,fun _=>by simpa using hr0⟩
def zQ:C3:=C3.mk [] (D9.mk 0 0 0)
open Classical in
/-- what pushing gives -/
noncomputable def PushV (q:C3) (a:List A1):C3×Int:=if qv q∧allgd a then (C3.mk (pushF q.fPending a) q.fBucket,0) else (zQ,1)
theorem B91 {q:C3} (h:Qs q) {a:List A1} (ha:∀ c∈a,sc c) (hn:a.length≤90):A5q q a=some (PushV q a):=by
 have hlen:=h.len;refine Tot.eq ?_;unfold A5q;refine Tot.jnR (fun m=>m=true↔¬ (qv q∧allgd a)) (fun j hj => ?_) (fun m hm => ?_)
 ·refine Tot.bindOf (qvalid h) ?_;refine Tot.ite (fun e=>hj _ ⟨fun _ hq => ?_,fun _=>by first | exact e | rfl⟩) (fun e => ?_)
  ·rw [A4p.2 hq.1] at e;cases e
  ·have hq:=A4p.1 (show qvB q=true by simpa using e);refine Tot.bindT (goods ha (by omega)) fun b hb=>hj _ ?_;rw [hb];exact⟨fun hc hh=>hc hh.2,fun hc hg=>hc ⟨hq,hg⟩⟩
 ·refine Tot.ite (fun e=>Tot.some (by rw [PushV,if_neg (hm.1 e)];rfl)) (fun e => ?_);have hqa:qv q∧allgd a:=Classical.byContradiction fun hc=>by rw [hm.2 hc] at e;cases e
  rw [PushV,if_pos hqa];have hqv:=hqa.1;refine Tot.bindOf (A9u h.all (by omega)) ?_;refine Tot.bindT (P':=fun m=>PM m q.fPending) ?_ fun m hm => ?_
  ·have hpl:(pf q.fPending).length=q.fPending.length:=by simp [pf]
   refine Tot.rng (β:=List (A2×Int)) q.fPending.length (fun i m=>((i:Int),m)) (fun i m=>PM m (q.fPending.take i)) _ [] rfl ⟨fun j hj=>absurd hj (by simp),fun p _=>rfl⟩ (fun i m hi hI => ?_) (fun m hI => ?_)
   ·unfold A3v;refine Tot.iteT (decide_eq_true (show(i:Int)<(q.fPending.length:Int) by omega)) ?_;refine Tot.bindIdx i rfl hi (Tot.bindIdx i rfl hi ?_);refine Tot.step _ (by rw [C0 hi (by omega)]) ?_;have hnot:q.fPending[i].fPrefix∉pf (q.fPending.take i):=by
     have:=B3t hqv.nod (i:=i) (by omega);rw [A7p] at this;unfold pf at this ⊢;rwa [List.map_take]
    have:=hI.snoc hnot;rw [List.length_take,Nat.min_eq_left (by omega)] at this;rw [F5 hi];exact this
   ·unfold A3v;refine Tot.iteF (decide_eq_false (show ¬ (q.fPending.length:Int)<(q.fPending.length:Int) by omega)) ?_;rw [List.take_of_length_le (Nat.le_refl _)] at hI;exact Tot.last hI
  ·refine Tot.bindOf (B0z ha (by omega)) ?_;have hp:=B72 hqv.nod h.all;have part:∀ i,∀ c∈a.take i,sc c:=fun i c hc=>ha c (List.mem_of_mem_take hc);refine Tot.bindRng (β:=List (A2×Int)) a.length (fun i m=>((i:Int),m,pushF q.fPending (a.take i))) (fun i m=>PM m (pushF q.fPending (a.take i))) (fun r=>r=pushF q.fPending a) m (by simp [pushF]) (by simpa [pushF] using hm) (fun i m hi hI => ?_) (fun m hI => ?_) (fun x hx => ?_)
   ·obtain⟨p1,p2,p3⟩:=hp (a.take i) (part i);rw [List.length_take] at p3;unfold A3w;refine Tot.iteT (decide_eq_true (show(i:Int)<(a.length:Int) by omega)) ?_;have hsn:pushF q.fPending (a.take (i+1))=putC (pushF q.fPending (a.take i)) a[i]:=by rw [F5 hi,A7q]
    refine Tot.jnR (fun m'=>PM m'.1 m'.2∧m'.2=pushF q.fPending (a.take (i+1))) (fun j hj => ?_) (fun m' hm'=>Tot.step m'.1 (by rw [C0 hi (by omega),hm'.2]) (by rw [← hm'.2];exact hm'.1));refine Tot.bindIdx i rfl hi ?_
    by_cases hc:a[i].fPrefix∈pf (pushF q.fPending (a.take i))
    ·obtain⟨t,ht,e⟩:=List.getElem_of_mem hc;have ht':t<(pushF q.fPending (a.take i)).length:=by simpa [pf] using ht
     rw [A7p] at e;have hg:=hI.1 t ht';rw [e] at hg;refine Tot.iteT (by rw [hg];rfl) ?_;refine Tot.bindIdx t (by rw [hg];rfl) ht' (Tot.bindIdx t (by rw [hg];rfl) ht' ?_);refine hj _ ?_;have h5:=B90 p1 ht' e;have h6:((mget keq33 m a[i].fPrefix).getD 0).toNat=t:=by rw [hg];simp
     simp only [h6];rw [h5,hsn];refine⟨hI.keep ?_,rfl⟩;rw [B8z,if_pos hc]
    ·have hg:=hI.2 _ hc;refine Tot.iteF (by rw [hg];rfl) ?_;refine Tot.chk (limB (by simp;omega)) ?_;refine hj _ ⟨hI.snoc hc,?_⟩;rw [hsn,B71 hc]
   ·unfold A3w;refine Tot.iteF (decide_eq_false (show ¬ (a.length:Int)<(a.length:Int) by omega)) ?_;refine Tot.last ?_;rw [List.take_of_length_le (Nat.le_refl _)]
   ·subst hx;have:=(hp a ha).2.2;refine Tot.iteF (decide_eq_false (by omega)) (Tot.some rfl)
theorem B73 {q:C3} (h:Qs q) {a:List A1} (ha:∀ c∈a,sc c) (hn:a.length≤90):A3c q a=some (PushV q a):=by
 have hlen:=h.len;refine Tot.eq ?_;unfold A3c;refine Tot.bindOf (rvalidq h) ?_;refine Tot.ite (fun e=>Tot.some ?_) (fun e => ?_)
 ·rw [PushV,if_neg]
  ·rfl
  ·rintro⟨hq,_⟩;rw [A4p.2 hq] at e;cases e
 have hqv:=A4p.1 (show qvB q=true by simpa using e);refine Tot.bindT (P':=fun x=>(x = .inl ()∧¬ allgd a)∨(x = .inr ()∧allgd a)) ?_ fun x hx => ?_
 ·refine Tot.rng (β:=Unit) a.length (fun i _=>(i:Int)) (fun i _=>∀ (j:Nat) (hj:j<a.length),j<i→gd a[j]) _ () rfl (fun j _ h=>absurd h (by omega)) (fun i _ hi hI => ?_) (fun _ hI => ?_)
  ·unfold A1p;refine Tot.iteT (decide_eq_true (by omega)) ?_;refine Tot.bindIdx i rfl hi ?_;refine Tot.bindOf (B5d (ha _ (List.getElem_mem hi))) ?_;refine Tot.ite (fun e=>Tot.stop (.inl ⟨rfl,fun hg => ?_⟩)) (fun e=>Tot.step () (C0 hi (by omega)) fun j hj hji => ?_)
   ·rw [A0h.2 (hg _ (List.getElem_mem hi))] at e;cases e
   ·by_cases e2:j=i
    ·subst e2;exact A0h.1 (by simpa using e)
    ·exact hI j hj (by omega)
  ·unfold A1p;refine Tot.iteF (decide_eq_false (by omega)) ?_;refine Tot.last (.inr ⟨rfl,fun c hc => ?_⟩);obtain⟨j,hj,rfl⟩:=List.getElem_of_mem hc;exact hI j hj hj
 ·rcases hx with ⟨rfl,hx⟩ | ⟨rfl,hga⟩
  case inl=>exact Tot.some (by rw [PushV,if_neg (fun hh=>hx hh.2)];rfl)
  rw [PushV,if_pos ⟨hqv,hga⟩];refine Tot.bindOf (B80 h.all (by omega)) ?_;refine Tot.bindOf (A7f ha (by omega)) ?_;have hp:=B72 hqv.nod h.all;have part:∀ i,∀ c∈a.take i,sc c:=fun i c hc=>ha c (List.mem_of_mem_take hc);refine Tot.bindRng (β:=List A1) a.length (fun i b=>((i:Int),b)) (fun i b=>b=pushF q.fPending (a.take i)) (fun r=>r=pushF q.fPending a) q.fPending rfl (by simp [pushF]) (fun i out hi hI => ?_) (fun out hI => ?_) (fun x hx => ?_)
  ·obtain⟨p1,p2,p3⟩:=hp (a.take i) (part i);rw [List.length_take] at p3;have hsn:pushF q.fPending (a.take (i+1))=putC (pushF q.fPending (a.take i)) a[i]:=by rw [F5 hi,A7q]
   unfold A1q;refine Tot.iteT (decide_eq_true (show(i:Int)<(a.length:Int) by omega)) ?_;refine Tot.bindIdx i rfl hi ?_;rw [← hI] at p1 p2 p3 hsn;clear hI;refine Tot.bindLoop (fun s:Int=>∃ t:Nat,s=t∧t≤out.length∧∀ (j:Nat) (hj:j<out.length),j<t→out[j].fPrefix≠a[i].fPrefix) (fun s=>((out.length:Int)-s).toNat) (fun s:Int=>∃ t:Nat,s=t∧t≤out.length∧(∀ (j:Nat) (hj:j<out.length),j<t→out[j].fPrefix≠a[i].fPrefix)∧∀ h:t<out.length,out[t].fPrefix=a[i].fPrefix) ⟨0,rfl,Nat.zero_le _,fun j hj h=>absurd h (by omega)⟩ (fun s hs => ?_) (fun s hs => ?_)
   ·obtain⟨t,rfl,h4,h5⟩:=hs;unfold A47;refine Tot.jnR (fun m=>(m=true→∃ h:t<out.length,out[t].fPrefix≠a[i].fPrefix)∧(m=false→∀ h:t<out.length,out[t].fPrefix=a[i].fPrefix)) (fun j hj => ?_) (fun m hm => ?_)
    ·refine Tot.ite (fun e => ?_) (fun e => ?_)
     ·have ht:t<out.length:=by have:=of_decide_eq_true e;simp only at this;omega
      refine Tot.bindIdx t rfl ht (Tot.bindIdx t rfl ht ?_);show Tot (j (!(peq out[t].fPrefix a[i].fPrefix))) _;refine hj _ ⟨fun e=>⟨ht,fun e' => ?_⟩,fun e h => ?_⟩
      ·rw [A28.2 e'] at e;cases e
      ·cases hq:peq out[t].fPrefix a[i].fPrefix with
       | true=>exact A28.1 hq
       | false=>rw [hq] at e;cases e
     ·have ht:¬ t<out.length:=by have:=of_decide_eq_false e;simp only at this;omega
      exact hj _ ⟨(fun e=>by cases e),fun _ h=>absurd h ht⟩
    ·refine Tot.ite (fun e => ?_) (fun e => ?_)
     ·obtain⟨ht,hne⟩:=hm.1 e;have hw:=C0 ht (n:=out.length) (by omega);refine Tot.next ⟨t+1,hw,ht,fun j hj hjt => ?_⟩ (by rw [hw];omega)
      by_cases hjt':j=t
      ·subst hjt';exact hne
      ·exact h5 j hj (by omega)
     ·exact Tot.out ⟨t,rfl,h4,h5,hm.2 e⟩
   ·obtain⟨t,rfl,h4,h5,h6⟩:=hs;refine Tot.jnR (fun m=>(t<out.length∧m=out)∨(t=out.length∧m=out++[a[i]])) (fun j hj => ?_) (fun m hm => ?_)
    ·refine Tot.ite (fun e => ?_) (fun e => ?_)
     ·have ht:t=out.length:=by simp at e;omega
      refine Tot.chk (limB (by simp;omega)) (hj _ (.inr ⟨ht,rfl⟩))
     ·have ht:t≠out.length:=by simp at e;omega
      exact hj _ (.inl ⟨by omega,rfl⟩)
    ·rcases hm with ⟨ht,rfl⟩ | ⟨ht,rfl⟩
     ·refine Tot.bindIdx t rfl ht (Tot.bindIdx t rfl ht ?_);refine Tot.step (putC m a[i]) ?_ hsn.symm;have h7:((t:Nat):Int).toNat=t:=by omega
      simp only [h7];rw [C0 hi (by omega),B90 p1 ht (h6 ht)]
     ·have hnot:a[i].fPrefix∉pf out:=fun hm=>by
       obtain⟨j,hj,e⟩:=List.getElem_of_mem hm;rw [A7p] at e;have hj':j<out.length:=by simpa [pf] using hj
       exact h5 j hj' (by omega) e
      subst ht;refine Tot.bindIdx out.length rfl (by simp) (Tot.bindIdx out.length rfl (by simp) ?_);refine Tot.step (putC out a[i]) ?_ hsn.symm;have h7:((out.length:Nat):Int).toNat=out.length:=by omega
      simp only [h7];rw [C0 hi (by omega),B71 hnot];simp
  ·unfold A1q;refine Tot.iteF (decide_eq_false (show ¬ (a.length:Int)<(a.length:Int) by omega)) ?_;refine Tot.last ?_;rw [hI,List.take_of_length_le (Nat.le_refl _)]
  ·subst hx;have:=(hp a ha).2.2;refine Tot.iteF (decide_eq_false (by omega)) (Tot.some rfl)
def nm (u:A7):List A2:=u.fWithdraw++u.fAnnounce
def SP (us:List A7):List A2:=us.flatMap nm
def asc (l:List A2):Prop:=l.Pairwise pLt
theorem C2s {l:List A2} {p:A2} (hR:∀ q∈l,aR q.fAddr) (hp:aR p.fAddr) (h:asc l) {k:Nat} (hk:k≤l.length) (h1:∀ (j:Nat) (hj:j<l.length),j<k→pLt l[j] p) (h2:∀ h:k<l.length,¬ pLt l[k] p∧l[k]≠p):asc (l.take k++[p]++l.drop k):=by
 have hb:∀ q∈l.take k,pLt q p:=fun q hq=>by
  rw [List.mem_take_iff_getElem] at hq;obtain⟨j,hj,rfl⟩:=hq;exact h1 j (by omega) (by omega)
 have ha:∀ q∈l.drop k,pLt p q:=fun q hq=>by
  obtain⟨j,hj,rfl⟩:=List.getElem_of_mem hq;rw [List.getElem_drop];have hj':k+j<l.length:=by simpa using (by rw [List.length_drop] at hj;omega:k+j<l.length)
  have hkl:k<l.length:=by omega
  obtain⟨h3,h4⟩:=h2 hkl;have hk0:pLt p l[k]:=Classical.byContradiction fun hn=>h4 (B28 (hR _ (List.getElem_mem hkl)) hp h3 hn)
  by_cases hj0:j=0
  ·subst hj0;exact hk0
  ·have:=List.pairwise_iff_getElem.1 h k (k+j) hkl hj' (by omega);exact A7d hp (hR _ (List.getElem_mem hkl)) (hR _ (List.getElem_mem hj')) hk0 this
 unfold asc at *;rw [List.pairwise_append,List.pairwise_append];refine⟨⟨h.sublist (List.take_sublist k l),List.pairwise_singleton _ _,fun a ha' b hb'=>by rw [List.mem_singleton.1 hb'];exact hb a ha'⟩,h.sublist (List.drop_sublist k l),fun a ha' b hb' => ?_⟩;rcases List.mem_append.1 ha' with h5 | h5
 ·exact A7d (hR _ (List.mem_of_mem_take h5)) hp (hR _ (List.mem_of_mem_drop hb')) (hb a h5) (ha b hb')
 ·rw [List.mem_singleton.1 h5];exact ha b hb'
def keepF (S:List A2) (l:List A1):List A1:=l.filter fun c => !decide (c.fPrefix∈S)
theorem A7r (S:List A2) (l:List A1) (c:A1):keepF S (l++[c])=if c.fPrefix∈S then keepF S l else keepF S l++[c]:=by
 unfold keepF;rw [List.filter_append]
 by_cases h:c.fPrefix∈S<;>simp [h]
theorem B4s (S:List A2) (l:List A1):(keepF S l).length≤l.length:=List.length_filter_le _ _
theorem firstdel {d:List (A2×Bool)} {S:List A2} (h:DM d S) {l:List A1} (hn:l.length≤100000):Tot (U0 l d) (fun r=>(r = -1∧∀ c∈l,c.fPrefix∉S)∨∃ (i:Nat) (hi:i<l.length),r=i∧l[i].fPrefix∈S∧∀ (j:Nat) (hj:j<l.length),j<i→l[j].fPrefix∉S):=by
 unfold U0;refine Tot.bindRng (β:=Unit) l.length (fun i _=>(i:Int)) (fun i _=>∀ (j:Nat) (hj:j<l.length),j<i→l[j].fPrefix∉S) (fun x=>(x = .inr ()∧∀ c∈l,c.fPrefix∉S)∨∃ (i:Nat) (hi:i<l.length),x = .inl (i:Int)∧l[i].fPrefix∈S∧∀ (j:Nat) (hj:j<l.length),j<i→l[j].fPrefix∉S) () rfl (fun j _ h=>absurd h (by omega)) (fun i _ hi hI => ?_) (fun _ hI => ?_) (fun x hx => ?_)
 ·unfold P2;refine Tot.iteT (decide_eq_true (by omega)) ?_;refine Tot.bindIdx i rfl hi (Tot.bindIdx i rfl hi ?_);have:A03 l[i] d=some (decide (l[i].fPrefix∈S)):=by unfold A03;rw [h]
  refine Tot.bindOf this ?_;refine Tot.ite (fun e=>Tot.stop (.inr ⟨i,hi,rfl,of_decide_eq_true e,hI⟩)) (fun e=>Tot.step () (C0 hi (by omega)) fun j hj hji => ?_)
  by_cases hji':j=i
  ·subst hji';exact of_decide_eq_false e
  ·exact hI j hj (by omega)
 ·unfold P2;refine Tot.iteF (decide_eq_false (by omega)) ?_;refine Tot.last (.inl ⟨rfl,fun c hc => ?_⟩);obtain⟨j,hj,rfl⟩:=List.getElem_of_mem hc;exact hI j hj hj
 ·rcases hx with ⟨rfl,h⟩ | ⟨i,hi,rfl,h⟩
  ·exact Tot.some (.inl ⟨rfl,h⟩)
  ·exact Tot.some (.inr ⟨i,hi,rfl,h⟩)
theorem B74 {S:List A2} {l:List A1} (h:∀ c∈l,c.fPrefix∉S):keepF S l=l:=by
 unfold keepF;rw [List.filter_eq_self];intro c hc;simp [h c hc]
theorem C00 {d:List (A2×Bool)} {S:List A2} (h:DM d S) {l:List A1} (hn:l.length≤100000):X1 l d=some (keepF S l):=by
 refine Tot.eq ?_;unfold X1;refine Tot.bindT (firstdel h hn) fun r hr => ?_;rcases hr with ⟨rfl,hr⟩ | ⟨i,hi,rfl,hr1,hr2⟩
 ·refine Tot.iteT rfl (Tot.some ?_);rw [B74 hr]
 ·refine Tot.iteF (by simp) ?_;have hw:=C0 hi (n:=l.length) (by omega);have hti:keepF S (l.take i)=l.take i:=B74 fun c hc=>by
   rw [List.mem_take_iff_getElem] at hc;obtain⟨j,hj,rfl⟩:=hc;exact hr2 j (by omega) (by omega)
  refine Tot.bindLoop (fun s:Int×Int×List A1=>∃ w j:Nat,s.1=w∧s.2.1=j∧w<j∧j≤l.length∧s.2.2.length=l.length∧s.2.2.take w=keepF S (l.take j)∧s.2.2.drop j=l.drop j) (fun s=>((l.length:Int)-s.2.1).toNat) (fun x:Int×List A1=>∃ w:Nat,x.1=w∧w≤l.length∧x.2.length=l.length∧x.2.take w=keepF S l) ⟨i,i+1,rfl,hw,by omega,hi,rfl,?_,rfl⟩ (fun s hs => ?_) (fun x hx => ?_)
  ·rw [F5 hi,A7r,if_pos hr1,hti]
  ·obtain⟨s1,s2,xs⟩:=s;obtain⟨w,j,e1,e2,h3,h4,h5,h6,h7⟩:=hs;simp only at e1 e2 h5 h6 h7;subst e1;subst e2;unfold X0;refine Tot.ite (fun e => ?_) (fun e => ?_)
   ·have hj:j<xs.length:=by have:=of_decide_eq_true e;simp only at this;omega
    have hjl:j<l.length:=by omega
    have hx:xs[j]=l[j]:=by
     have h8:=List.drop_eq_getElem_cons hj;have h9:=List.drop_eq_getElem_cons hjl;rw [h7,h9] at h8;injection h8 with h8 _;exact h8.symm
    have hd:xs.drop (j+1)=l.drop (j+1):=by
     have h8:=congrArg (List.drop 1) h7;rwa [List.drop_drop,List.drop_drop] at h8
    have hw2:=C0 hjl (n:=l.length) (by omega);refine Tot.bindIdx j rfl hj (Tot.bindIdx j rfl hj ?_);have:A03 xs[j] d=some (decide (xs[j].fPrefix∈S)):=by unfold A03;rw [h]
    refine Tot.bindOf this ?_;refine Tot.jnR (fun m=>∃ w':Nat,m.1=w'∧w'<j+1∧m.2.length=l.length∧m.2.take w'=keepF S (l.take (j+1))∧m.2.drop (j+1)=l.drop (j+1)) (fun jj hjj => ?_) (fun m hm => ?_)
    ·refine Tot.ite (fun e' => ?_) (fun e' => ?_)
     ·have hnot:l[j].fPrefix∉S:=by rw [← hx];simpa using e'
      refine Tot.bindIdx w rfl (show w<xs.length by omega) (Tot.bindIdx w rfl (show w<xs.length by omega) ?_);refine hjj _ ⟨w+1,C0 (n:=l.length) (by omega) (by omega),by omega,by simpa using h5,?_,?_⟩
      ·have hwn:((w:Nat):Int).toNat=w:=by omega
       simp only [hwn];rw [F5 (by rw [List.length_set];omega),List.getElem_set_self,List.take_set_of_le (Nat.le_refl _),h6,F5 hjl,A7r,if_neg hnot,hx]
      ·have hwn:((w:Nat):Int).toNat=w:=by omega
       simp only [hwn];rw [List.drop_set_of_lt (by omega)];exact hd
     ·have hin:l[j].fPrefix∈S:=by rw [← hx];simpa using e'
      refine hjj _ ⟨w,rfl,by omega,h5,?_,hd⟩;simp only;rw [h6,F5 hjl,A7r,if_pos hin]
    ·obtain⟨w',g1,g2,g3,g4,g5⟩:=hm;refine Tot.next ⟨w',j+1,g1,hw2,g2,hjl,g3,g4,g5⟩ ?_;simp only;rw [hw2];omega
   ·have hj:¬ j<xs.length:=by have:=of_decide_eq_false e;simp only at this;omega
    refine Tot.out ⟨w,rfl,by omega,h5,?_⟩;have hjl:j=l.length:=by omega
    subst hjl;rw [List.take_of_length_le (Nat.le_refl _)] at h6;exact h6
  ·obtain⟨x1,xs⟩:=x;obtain⟨w,e1,h2,h3,h4⟩:=hx;simp only at e1 h3 h4;subst e1;have hwn:((w:Nat):Int).toNat=w:=by omega
   refine Tot.chk (by simp;omega) (Tot.chk (decide_eq_true (by show((w:Nat):Int).toNat+(xs.length-((w:Nat):Int).toNat)≤xs.length;omega)) (Tot.chk (by simp;omega) (Tot.some ?_)));simp only [hwn];rw [List.drop_zero,List.append_assoc,List.take_append_of_le_length (by simp;omega),List.take_take,Nat.min_self];exact h4
-- sending
def bk' (b:D9) (i:Nat):D9:=D9.mk (b.fLevel-i) b.fRate b.fBurst
theorem B92 {us:List A7} {i:Nat} (h:i<us.length):SP (us.take (i+1))=SP (us.take i)++nm us[i]:=by
 unfold SP;rw [F5 h,List.flatMap_append];simp
theorem B75 {b:D9} {i:Nat} (h0:0≤b.fLevel∧b.fLevel≤1048576) (hi:(i:Int)≤b.fLevel):A5y (bk' b i)=some (if (i:Int)<b.fLevel then (bk' b (i+1),true) else (bk' b i,false)):=by
 unfold A5y;have e1:(bk' b i).fLevel=b.fLevel-i:=rfl
 by_cases h:(i:Int)<b.fLevel
 ·have e2:decide ((bk' b i).fLevel≤0)=false:=decide_eq_false (by rw [e1];omega);rw [if_pos h,e2,e1,H1 (by omega) (by omega)];unfold bk';simp only;rw [show b.fLevel-(i:Int)-1=b.fLevel-((i+1:Nat):Int) by omega];rfl
 ·have e2:decide ((bk' b i).fLevel≤0)=true:=decide_eq_true (by rw [e1];omega);rw [if_neg h,e2];rfl
def cut31 (b:D9) (us:List A7):Nat:=min b.fLevel.toNat us.length
theorem sends {us:List A7} {e:Int} {b:D9} (h0:0≤b.fLevel∧b.fLevel≤1048576) (hl:us.length≤4000000) (hu:∀ u∈us,u.fWithdraw.length≤100000∧u.fAnnounce.length≤100000) :
  Tot (loop (A3z (us,e)) ((0:Int),([]:List (A2×Bool)),([]:List A7),b)) (fun x=>DM x.1 (SP (us.take (cut31 b us)))∧x.2=(us.take (cut31 b us),bk' b (cut31 b us))):=by
 have hb0:b=bk' b 0:=by cases b;simp [bk']
 refine Tot.loop (fun s:Int×List (A2×Bool)×List A7×D9=>∃ i:Nat,s.1=i∧i≤us.length∧(i:Int)≤b.fLevel∧DM s.2.1 (SP (us.take i))∧s.2.2.1=us.take i∧s.2.2.2=bk' b i) (fun s=>((us.length:Int)-s.1).toNat) _ (fun s hs => ?_) ⟨0,rfl,Nat.zero_le _,h0.1,by simpa [SP] using DM.nil,by simp,hb0⟩;obtain⟨s1,d,sent,b'⟩:=s;obtain⟨i,e1,h2,h3,h4,h5,h6⟩:=hs;simp only at e1 h4 h5 h6;subst e1;subst h5;subst h6;have fin:(cut31 b us=i)→Tot (some (Sum.inl (d,us.take i,bk' b i):(List (A2×Bool)×List A7×D9)⊕(Int×List (A2×Bool)×List A7×D9))) (Rnd (fun s:Int×List (A2×Bool)×List A7×D9=>∃ i:Nat,s.1=i∧i≤us.length∧(i:Int)≤b.fLevel∧DM s.2.1 (SP (us.take i))∧s.2.2.1=us.take i∧s.2.2.2=bk' b i) (fun s=>((us.length:Int)-s.1).toNat) (fun x=>DM x.1 (SP (us.take (cut31 b us)))∧x.2=(us.take (cut31 b us),bk' b (cut31 b us))) ((i:Int),d,us.take i,bk' b i)):=fun hc=>Tot.out (by rw [hc];exact⟨h4,rfl⟩);unfold A3z;refine Tot.ite (fun e => ?_) (fun e => ?_)
 ·have hi:i<us.length:=by have:=of_decide_eq_true e;simp only at this;omega
  refine Tot.bindIdx i rfl hi ?_;refine Tot.bindOf (B75 h0 h3) ?_
  by_cases hlt:(i:Int)<b.fLevel
  ·rw [if_pos hlt];obtain⟨u1,u2⟩:=hu _ (List.getElem_mem hi);refine Tot.iteF rfl ?_;refine Tot.chk (limB (by simp;omega)) ?_;have hcl:A3x us[i].fWithdraw=some us[i].fWithdraw:=by
    unfold A3x;simp [chk,show us[i].fWithdraw.length≤LIM from(by show _≤4294967296;omega)]
   refine Tot.bindOf hcl ?_;refine Tot.chk (limB (by simp;omega)) ?_;refine Tot.bindT (P':=fun d'=>DM d' (SP (us.take i)++nm us[i])) ?_ fun d' hd' => ?_
   ·refine Tot.rng (β:=List (A2×Bool)) (nm us[i]).length (fun k d=>((k:Int),d)) (fun k d=>DM d (SP (us.take i)++(nm us[i]).take k)) _ d rfl (by simpa using h4) (fun k d hk hI => ?_) (fun d hI => ?_)
    ·unfold A3y;have hk':k<(us[i].fWithdraw++us[i].fAnnounce).length:=hk;refine Tot.iteT (decide_eq_true (show(k:Int)<((us[i].fWithdraw++us[i].fAnnounce).length:Int) by omega)) ?_;refine Tot.bindIdx k rfl hk' (Tot.bindIdx k rfl hk' ?_);have hnl:(nm us[i]).length≤200000:=by simp [nm];omega
     refine Tot.step _ (by rw [C0 hk (by omega)]) ?_;rw [F5 hk,← List.append_assoc];exact hI.put _
    ·unfold A3y;refine Tot.iteF (decide_eq_false (show ¬ ((nm us[i]).length:Int)<((us[i].fWithdraw++us[i].fAnnounce).length:Int) by simp [nm])) ?_;rw [List.take_of_length_le (Nat.le_refl _)] at hI;exact Tot.last hI
   ·have hw:=C0 hi (n:=us.length) (by omega);refine Tot.next ⟨i+1,hw,hi,by omega,by rw [B92 hi];exact hd',by rw [F5 hi],rfl⟩ ?_;simp only;rw [hw];omega
  ·rw [if_neg hlt];refine Tot.iteT rfl (fin ?_);unfold cut31;omega
 ·have hi:¬ i<us.length:=by have:=of_decide_eq_false e;simp only at this;omega
  refine fin ?_;unfold cut31;omega
theorem min64 (n:Nat):(minI (n:Int) 64).toNat=min n 64∧0≤minI (n:Int) 64:=by
 unfold minI;split<;>omega
theorem take64 {α:Type} (l:List α):(l.take (min l.length 64)).drop 0=l.take 64:=by
 rw [List.drop_zero]
 by_cases h:l.length≤64
 ·rw [Nat.min_eq_left h,List.take_of_length_le (Nat.le_refl _),List.take_of_length_le h]
 ·rw [Nat.min_eq_right (by omega)]
theorem B0j (p q:A2):cmpP p q<0↔pLt p q:=B59 p q
theorem B81 {l:List A1} (h:∀ c∈l,sc c) (hn:(pf l).Nodup) (hl:l.length≤64):Tot (I1 l) (fun r=>r.Perm l∧asc (pf r)):=by
 have aR':∀ c∈l,aR c.fPrefix.fAddr:=fun c hc=>(h c hc).ad;unfold I1;obtain⟨r,e,h1,h2⟩:=B4h (xs:=l) (cmp:=fun x y=>A37 x y) (fun x y=>cmpP x.fPrefix y.fPrefix) (fun x hx y hy=>by unfold A37;exact Q8 (B8k (aR' x hx) (aR' y hy)) rfl) (fun x _=>by rw [B0j];exact B8l _)
  (fun x hx y hy z hz h3 h4=>by
   rw [B0j] at *;exact A7d (aR' x hx) (aR' y hy) (aR' z hz) h3 h4)
  (fun x hx y hy z hz h3 h4 h5=>by
   rw [B0j] at *
   by_cases h6:pLt y.fPrefix x.fPrefix
   ·exact h4 (A7d (aR' y hy) (aR' x hx) (aR' z hz) h6 h5)
   ·rw [B28 (aR' x hx) (aR' y hy) h3 h6] at h5;exact h4 h5) (by omega)
 refine Tot.of e ⟨h1,?_⟩;have hnr:(pf r).Nodup:=(h1.map _).nodup_iff.2 hn;have hp:r.Pairwise fun a b=>pLt a.fPrefix b.fPrefix:=by
  rw [List.pairwise_iff_getElem] at h2 ⊢;intro i j hi hj hij;have:=h2 i j hi hj hij;rw [B0j] at this;refine Classical.byContradiction fun hn => ?_;have e':=B28 (aR' _ (h1.mem_iff.1 (List.getElem_mem hi))) (aR' _ (h1.mem_iff.1 (List.getElem_mem hj))) hn this;have h3:(pf r)[i]'(by simpa [pf] using hi)=(pf r)[j]'(by simpa [pf] using hj):=by simpa [pf] using e'
  have:=(List.getElem_inj hnr).1 h3;omega
 unfold asc pf;rw [List.pairwise_map];exact hp
def SendR (q:C3) (r:List A1) (y:C3×List A7×Int):Prop :=
 y=(C3.mk (keepF (SP ((packF r).take (cut31 q.fBucket (packF r)))) q.fPending) (bk' q.fBucket (cut31 q.fBucket (packF r))),(packF r).take (cut31 q.fBucket (packF r)),0)
theorem B93 {r:List A1} (h:Chs r):∀ u∈packF r,u.fWithdraw.length≤100000∧u.fAnnounce.length≤100000:=fun u hu=>by
 have:=B6w h u hu;exact this.2
theorem C3i {l:List A1} (hS:∀ c∈l,sc c) (hg:∀ c∈l,gd c) (ha:asc (pf l)) (hl:l.length≤1000):Chs l:=by
 refine⟨hS,hg,fun i hi => ?_,hl⟩;have:=List.pairwise_iff_getElem.1 ha i (i+1) (by simp [pf];omega) (by simpa [pf] using hi) (by omega);simpa [pf] using this
theorem B3u {q:C3} (hs:Qs q) (hq:qv q) {r:List A1} (r1:r.Perm (q.fPending.take 64)) (r2:asc (pf r)):Chs r :=
 C3i (fun c hc=>hs.all c (List.mem_of_mem_take (r1.mem_iff.1 hc))) (fun c hc=>hq.all c (List.mem_of_mem_take (r1.mem_iff.1 hc))) r2 (by rw [r1.length_eq,List.length_take];omega)
theorem C1o {l:List A1} (h:Chs l):PF l=(packF l,0):=by rw [PF,if_pos ⟨h.all,h.asc⟩]
def SendV (q:C3) (y:C3×List A7×Int):Prop:=(¬ qv q∧y=(zQ,[],1))∨(qv q∧∃ r,r.Perm (q.fPending.take 64)∧asc (pf r)∧SendR q r y)
theorem B76 {q:C3} (h:Qs q):Tot (A5r q) (SendV q):=by
 have hlen:=h.len;unfold A5r;refine Tot.bindOf (qvalid h) ?_;refine Tot.ite (fun e=>Tot.some (.inl ⟨(fun hq=>by rw [A4p.2 hq] at e;cases e),rfl⟩)) (fun e => ?_);have hq:=A4p.1 (show qvB q=true by simpa using e);have hl0:=hq.bkt.l0;have hb0:=hq.bkt.b0;obtain⟨m1,m2⟩:=min64 q.fPending.length;refine Tot.chk (by rw [m1];simp;omega) ?_;rw [m1,take64];have ht:∀ c∈q.fPending.take 64,sc c:=fun c hc=>h.all c (List.mem_of_mem_take hc);have htl:(q.fPending.take 64).length≤64:=by simp;omega
 refine Tot.bindOf (A9u ht (by omega)) ?_;refine Tot.bindT (B81 ht (B6y hq.nod 64) htl) fun r hr => ?_;obtain⟨r1,r2⟩:=hr;have hrl:=r1.length_eq;have hch:=B3u h hq r1 r2;refine Tot.chk (by rw [hrl];simp) ?_;rw [List.drop_zero,← hrl,List.take_of_length_le (Nat.le_refl _)];refine Tot.bindOf (B8s hch.sc hch.len) ?_;rw [C1o hch];refine Tot.iteF rfl ?_;refine Tot.bindOf (A9u h.all (by omega)) ?_;refine Tot.bindT (sends (by omega) (Nat.le_trans (B0x hch) (by decide)) (B93 hch)) fun x hx => ?_;obtain⟨x1,x2⟩:=hx;refine Tot.bindOf (C00 x1 (by omega)) (Tot.some (.inr ⟨hq,r,r1,r2,?_⟩));unfold SendR;rw [x2]
theorem B77:∀ {l m:List A1},l.Perm m→asc (pf l)→asc (pf m)→l=m
 | [],m,h,_,_=>(List.Perm.nil_eq h)
 | a :: l,[],h,_,_=>absurd h.length_eq (by simp)
 | a :: l,b :: m,h,h1,h2=>by
  have e:a=b:=by
   refine Classical.byContradiction fun hne => ?_;have ha:a∈m:=by
    rcases List.mem_cons.1 (h.mem_iff.1 (List.mem_cons_self ..)) with h3 | h3
    ·exact absurd h3 hne
    ·exact h3
   have hb:b∈l:=by
    rcases List.mem_cons.1 (h.mem_iff.2 (List.mem_cons_self ..)) with h3 | h3
    ·exact absurd h3.symm hne
    ·exact h3
   have h3:=(List.pairwise_cons.1 h1).1 b.fPrefix (List.mem_map.2 ⟨b,hb,rfl⟩);have h4:=(List.pairwise_cons.1 h2).1 a.fPrefix (List.mem_map.2 ⟨a,ha,rfl⟩);exact B0f h3 h4
  subst e;rw [B77 (List.perm_cons _ |>.1 h) (List.pairwise_cons.1 h1).2 (List.pairwise_cons.1 h2).2]
theorem SendV.uniq {q:C3} {y z:C3×List A7×Int} (hy:SendV q y) (hz:SendV q z):y=z:=by
 rcases hy with ⟨n,hy⟩ | ⟨hq,r,r1,r2,hy⟩
 ·rcases hz with ⟨_,hz⟩ | ⟨hq,_⟩
  ·rw [hy,hz]
  ·exact absurd hq n
 ·rcases hz with ⟨n,_⟩ | ⟨_,s,s1,s2,hz⟩
  ·exact absurd hq n
  ·have e:=B77 (r1.trans s1.symm) r2 s2;subst e;unfold SendR at hy hz;rw [hy,hz]
theorem C2t {q:C3} (h:Qs q):A7b q=some (C3.mk q.fPending (D9.mk (minI (w64 (q.fBucket.fLevel+q.fBucket.fRate)) q.fBucket.fBurst) q.fBucket.fRate q.fBucket.fBurst)):=by
 have hlen:=h.len;unfold A7b;exact Q8 (B0z h.all (by omega)) rfl
theorem C1p {q:C3} (h:Qs q):A53 q=some (C3.mk q.fPending (D9.mk (minI (w64 (q.fBucket.fLevel+q.fBucket.fRate)) q.fBucket.fBurst) q.fBucket.fRate q.fBucket.fBurst)):=by
 have hlen:=h.len;unfold A53;exact Q8 (A7f h.all (by omega)) rfl
theorem B94 (p q:A2):0<cmpP p q↔pLt q p:=by
 unfold cmpP;split
 ·rename_i h;constructor
  ·intro e;omega
  ·intro e;exact absurd e (B0f h)
 ·split
  ·rename_i h;simp [h]
  ·rename_i h;simp [h]
theorem C01 {l:List A1} (h:∀ c∈l,sc c) (hn:(pf l).Nodup) (hl:l.length≤64):Tot (loop (Z8 l) ((0:Int),([]:List A1))) (fun r=>r.Perm l∧asc (pf r)):=by
 refine Tot.rng (β:=List A1) l.length (fun i out=>((i:Int),out)) (fun i out=>asc (pf out)∧out.Perm (l.take i)) _ [] rfl ⟨List.Pairwise.nil,by simp⟩ (fun i out hi hI => ?_) (fun out hI => ?_)
 ·obtain⟨h1,hpm⟩:=hI;have h2:out.length=i:=by rw [hpm.length_eq,List.length_take];omega
  have h3:∀ c∈out,c∈l.take i:=fun c hc=>hpm.mem_iff.1 hc;have hall:∀ c∈out,sc c:=fun c hc=>h c (List.mem_of_mem_take (h3 c hc));have hgc:=h _ (List.getElem_mem hi);have hR:∀ q∈pf out,aR q.fAddr:=fun q hq=>by
   obtain⟨c,hc,rfl⟩:=List.mem_map.1 hq;exact(hall c hc).ad
  have hnot:l[i].fPrefix∉pf out:=fun hm=>by
   obtain⟨c,hc,e⟩:=List.mem_map.1 hm;have h5:=B3t hn (i:=i) (by simpa [pf] using hi);rw [A7p] at h5;refine h5 ?_;have h6:=h3 c hc;unfold pf;rw [← List.map_take];exact List.mem_map.2 ⟨c,h6,e⟩
  unfold Z8;refine Tot.iteT (decide_eq_true (show(i:Int)<(l.length:Int) by omega)) ?_;refine Tot.bindIdx i rfl hi ?_;generalize hx:l[i]=x at hgc hnot;have hpo:(pf out).length=out.length:=by simp [pf]
  refine Tot.bindLoop (fun s:Int=>∃ t:Nat,s=t∧t≤out.length∧∀ (j:Nat) (hj:j<out.length),t≤j→pLt x.fPrefix out[j].fPrefix) (fun s=>s.toNat) (fun s:Int=>∃ t:Nat,s=t∧t≤out.length∧(∀ (j:Nat) (hj:j<out.length),t≤j→pLt x.fPrefix out[j].fPrefix)∧∀ (h0:0<t) (h':t-1<out.length),¬ pLt x.fPrefix out[t-1].fPrefix) ⟨out.length,rfl,Nat.le_refl _,fun j hj h=>absurd h (by omega)⟩ (fun s hs => ?_) (fun s hs => ?_)
  ·obtain⟨t,rfl,h4,h5⟩:=hs;unfold A48;refine Tot.jnR (fun m=>(m=true→0<t∧∀ h':t-1<out.length,pLt x.fPrefix out[t-1].fPrefix)∧(m=false→∀ (h0:0<t) (h':t-1<out.length),¬ pLt x.fPrefix out[t-1].fPrefix)) (fun j hj => ?_) (fun m hm => ?_)
   ·refine Tot.ite (fun e => ?_) (fun e => ?_)
    ·have ht:0<t:=by have:=of_decide_eq_true e;omega
     obtain⟨u,rfl⟩:∃ u,t=u+1:=⟨t-1,by omega⟩;have hw:=S8 (k:=u) (n:=out.length) (by omega) (by omega);refine Tot.bindIdx u hw (show u<out.length by omega) (Tot.bindIdx u hw (show u<out.length by omega) ?_);refine Tot.bindOf (B3i (hall _ (List.getElem_mem (by omega))).ad hgc.ad) ?_;refine hj _ ⟨fun e=>⟨ht,fun _ => ?_⟩,fun e _ _ => ?_⟩
     ·exact(B94 _ _).1 (of_decide_eq_true e)
     ·intro hlt;exact absurd ((B94 _ _).2 hlt) (of_decide_eq_false e)
    ·have ht:¬ 0<t:=by have:=of_decide_eq_false e;omega
     exact hj _ ⟨(fun e=>by cases e),fun _ h0=>absurd h0 ht⟩
   ·refine Tot.ite (fun e => ?_) (fun e => ?_)
    ·obtain⟨h0,hlt⟩:=hm.1 e;obtain⟨u,rfl⟩:∃ u,t=u+1:=⟨t-1,by omega⟩;have hw:=S8 (k:=u) (n:=out.length) (by omega) (by omega);refine Tot.next ⟨u,hw,by omega,fun j hj huj => ?_⟩ (by rw [hw];omega)
     by_cases hju:j=u
     ·subst hju;exact hlt hj
     ·exact h5 j hj (by omega)
    ·exact Tot.out ⟨t,rfl,h4,h5,hm.2 e⟩
  ·obtain⟨t,rfl,h4,h5,h6⟩:=hs;have htn:((t:Nat):Int).toNat=t:=by omega
   refine Tot.chk (by simp;omega) (Tot.chk (decide_eq_true (by show((t:Nat):Int).toNat+(out.length-((t:Nat):Int).toNat)≤out.length;omega)) (Tot.chk (limB (by simp;omega)) (Tot.chk (by simp;omega) (Tot.chk (limB (by simp;omega)) (Tot.chk (limB (by simp;omega)) ?_)))));simp only [htn];have hd:(out.drop t).take (out.length-t)=out.drop t:=List.take_of_length_le (by simp);rw [hd];refine Tot.step (out.take t++[x]++out.drop t) (by rw [C0 hi (by omega)]) ⟨?_,?_⟩
   ·have:=C2s (l:=pf out) (p:=x.fPrefix) hR hgc.ad h1 (k:=t) (by omega) (fun j hj hjt => ?_) (fun hlt => ?_)
    ·simpa [pf,List.map_take,List.map_drop] using this
    ·have h0:0<t:=by omega
     have hu:t-1<out.length:=by omega
     have h7:=h6 h0 hu;have hRu:=(hall _ (List.getElem_mem hu)).ad;have h8:pLt out[t-1].fPrefix x.fPrefix:=Classical.byContradiction fun hn'=>hnot (by
      rw [B28 hgc.ad hRu h7 hn'];exact List.mem_map.2 ⟨_,List.getElem_mem hu,rfl⟩)
     rw [A7p]
     by_cases hj1:j=t-1
     ·subst hj1;exact h8
     ·have h9:=List.pairwise_iff_getElem.1 h1 j (t-1) hj (by omega) (by omega);rw [A7p,A7p] at h9;exact A7d (hall _ (List.getElem_mem (by omega))).ad hRu hgc.ad h9 h8
    ·rw [A7p];have h7:=h5 t (by omega) (Nat.le_refl _);exact⟨B0f h7,fun e=>B8l x.fPrefix (by rw [e] at h7;exact h7)⟩
   ·rw [F5 hi,hx,List.append_assoc];refine(List.Perm.append_left _ List.perm_append_comm).trans ?_;rw [← List.append_assoc,List.take_append_drop];exact hpm.append_right _
 ·unfold Z8;refine Tot.iteF (decide_eq_false (show ¬ (l.length:Int)<(l.length:Int) by omega)) ?_;obtain⟨h1,h2⟩:=hI;rw [List.take_of_length_le (Nat.le_refl _)] at h2;exact Tot.last ⟨h2,h1⟩
theorem rsends {us:List A7} {e:Int} {b:D9} (h0:0≤b.fLevel∧b.fLevel≤1048576) (hl:us.length≤4000000) (hu:∀ u∈us,u.fWithdraw.length≤100000∧u.fAnnounce.length≤100000) :
  Tot (loop (A1t (us,e)) ((0:Int),([]:List (A2×Bool)),([]:List A7),b)) (fun x=>DM x.1 (SP (us.take (cut31 b us)))∧x.2=(us.take (cut31 b us),bk' b (cut31 b us))):=by
 have hb0:b=bk' b 0:=by cases b;simp [bk']
 refine Tot.loop (fun s:Int×List (A2×Bool)×List A7×D9=>∃ i:Nat,s.1=i∧i≤us.length∧(i:Int)≤b.fLevel∧DM s.2.1 (SP (us.take i))∧s.2.2.1=us.take i∧s.2.2.2=bk' b i) (fun s=>((us.length:Int)-s.1).toNat) _ (fun s hs => ?_) ⟨0,rfl,Nat.zero_le _,h0.1,by simpa [SP] using DM.nil,by simp,hb0⟩;obtain⟨s1,d,sent,b'⟩:=s;obtain⟨i,e1,h2,h3,h4,h5,h6⟩:=hs;simp only at e1 h4 h5 h6;subst e1;subst h5;subst h6;have fin:(cut31 b us=i)→Tot (some (Sum.inl (d,us.take i,bk' b i):(List (A2×Bool)×List A7×D9)⊕(Int×List (A2×Bool)×List A7×D9))) (Rnd (fun s:Int×List (A2×Bool)×List A7×D9=>∃ i:Nat,s.1=i∧i≤us.length∧(i:Int)≤b.fLevel∧DM s.2.1 (SP (us.take i))∧s.2.2.1=us.take i∧s.2.2.2=bk' b i) (fun s=>((us.length:Int)-s.1).toNat) (fun x=>DM x.1 (SP (us.take (cut31 b us)))∧x.2=(us.take (cut31 b us),bk' b (cut31 b us))) ((i:Int),d,us.take i,bk' b i)):=fun hc=>Tot.out (by rw [hc];exact⟨h4,rfl⟩);unfold A1t;refine Tot.ite (fun e => ?_) (fun e => ?_)
 ·have hi:i<us.length:=by have:=of_decide_eq_true e;simp only at this;omega
  refine Tot.bindIdx i rfl hi ?_;refine Tot.bindOf (show A6j (bk' b i)=_ from B75 h0 h3) ?_
  by_cases hlt:(i:Int)<b.fLevel
  ·rw [if_pos hlt];obtain⟨u1,u2⟩:=hu _ (List.getElem_mem hi);refine Tot.iteF rfl ?_;refine Tot.chk (limB (by simp;omega)) (Tot.chk (limB (show us[i].fWithdraw.length≤_ by omega)) (Tot.chk (limB (by simp;omega)) ?_));refine Tot.bindT (P':=fun d'=>DM d' (SP (us.take i)++nm us[i])) ?_ fun d' hd' => ?_
   ·refine Tot.rng (β:=List (A2×Bool)) (nm us[i]).length (fun k d=>((k:Int),d)) (fun k d=>DM d (SP (us.take i)++(nm us[i]).take k)) _ d rfl (by simpa using h4) (fun k d hk hI => ?_) (fun d hI => ?_)
    ·unfold A1s;have hk':k<(us[i].fWithdraw++us[i].fAnnounce).length:=hk;refine Tot.iteT (decide_eq_true (show(k:Int)<((us[i].fWithdraw++us[i].fAnnounce).length:Int) by omega)) ?_;refine Tot.bindIdx k rfl hk' (Tot.bindIdx k rfl hk' ?_);have hnl:(nm us[i]).length≤200000:=by simp [nm];omega
     refine Tot.step _ (by rw [C0 hk (by omega)]) ?_;rw [F5 hk,← List.append_assoc];exact hI.put _
    ·unfold A1s;refine Tot.iteF (decide_eq_false (show ¬ ((nm us[i]).length:Int)<((us[i].fWithdraw++us[i].fAnnounce).length:Int) by simp [nm])) ?_;rw [List.take_of_length_le (Nat.le_refl _)] at hI;exact Tot.last hI
   ·have hw:=C0 hi (n:=us.length) (by omega);refine Tot.next ⟨i+1,hw,hi,by omega,by rw [B92 hi];exact hd',by rw [F5 hi],rfl⟩ ?_;simp only;rw [hw];omega
  ·rw [if_neg hlt];refine Tot.iteT rfl (fin ?_);unfold cut31;omega
 ·have hi:¬ i<us.length:=by have:=of_decide_eq_false e;simp only at this;omega
  refine fin ?_;unfold cut31;omega
theorem C02 {d:List (A2×Bool)} {S:List A2} (h:DM d S) {l:List A1} (hn:l.length≤100000) {z:List A7×D9}:Tot (loop (Z9 (d,z) l) ((0:Int),([]:List A1))) (fun r=>r=keepF S l):=by
 refine Tot.rng (β:=Unit) l.length (fun i _=>((i:Int),keepF S (l.take i))) (fun _ _=>True) _ () (by simp [keepF]) trivial (fun i _ hi _ => ?_) (fun _ _ => ?_)
 ·have hkl:=B4s S (l.take i);unfold Z9;refine Tot.iteT (decide_eq_true (show(i:Int)<(l.length:Int) by omega)) ?_;refine Tot.bindIdx i rfl hi ?_;refine Tot.jnR (fun m=>m=keepF S (l.take (i+1))) (fun j hj => ?_) (fun m hm=>Tot.step () (by rw [C0 hi (by omega),hm]) trivial);have hs:keepF S (l.take (i+1))=if l[i].fPrefix∈S then keepF S (l.take i) else keepF S (l.take i)++[l[i]]:=by rw [F5 hi,A7r]
  by_cases hm:l[i].fPrefix∈S
  ·refine Tot.iteF (by rw [h];simp [hm]) (hj _ ?_);rw [hs,if_pos hm]
  ·refine Tot.iteT (by rw [h];simp [hm]) (Tot.chk (limB (by simp at hkl ⊢;omega)) (hj _ ?_));rw [hs,if_neg hm]
 ·unfold Z9;refine Tot.iteF (decide_eq_false (show ¬ (l.length:Int)<(l.length:Int) by omega)) ?_;refine Tot.last ?_;rw [List.take_of_length_le (Nat.le_refl _)]
theorem B4t {q:C3} (h:Qs q):Tot (A3d q) (SendV q):=by
 have hlen:=h.len;unfold A3d;refine Tot.bindOf (rvalidq h) ?_;refine Tot.ite (fun e=>Tot.some (.inl ⟨(fun hq=>by rw [A4p.2 hq] at e;cases e),rfl⟩)) (fun e => ?_);have hq:=A4p.1 (show qvB q=true by simpa using e);have hl0:=hq.bkt.l0;have hb0:=hq.bkt.b0;obtain⟨m1,m2⟩:=min64 q.fPending.length;refine Tot.chk (by rw [m1];simp;omega) ?_;rw [m1,take64];have ht:∀ c∈q.fPending.take 64,sc c:=fun c hc=>h.all c (List.mem_of_mem_take hc);have htl:(q.fPending.take 64).length≤64:=by simp;omega
 refine Tot.bindOf (A7f ht (by omega)) ?_;refine Tot.bindT (C01 ht (B6y hq.nod 64) htl) fun r hr => ?_;obtain⟨r1,r2⟩:=hr;have hch:=B3u h hq r1 r2;refine Tot.bindOf (C1g hch.sc hch.len) ?_;rw [C1o hch];refine Tot.iteF rfl ?_;refine Tot.bindT (rsends (by omega) (Nat.le_trans (B0x hch) (by decide)) (B93 hch)) fun x hx => ?_;obtain⟨x1,x2⟩:=hx;refine Tot.bindOf (A7f h.all (by omega)) ?_;obtain⟨xd,xr⟩:=x;refine Tot.bindT (C02 x1 (by omega)) fun o ho=>Tot.some (.inr ⟨hq,r,r1,r2,?_⟩);unfold SendR;simp only at x2;rw [x2,ho]
structure Qn (n:Nat) (q:C3):Prop where
 all:∀ c∈q.fPending,sc c
 len:q.fPending.length≤n
theorem Qn.qs {n:Nat} {q:C3} (h:Qn n q) (hn:n≤300):Qs q:=⟨h.all,Nat.le_trans h.len hn⟩
theorem Qn.up {n m:Nat} {q:C3} (h:Qn n q) (hn:n≤m):Qn m q:=⟨h.all,Nat.le_trans h.len hn⟩
theorem zQ_n {n:Nat}:Qn n zQ:=⟨(fun c hc=>by cases hc),Nat.zero_le _⟩
theorem C1q {out:List A1} (h2:∀ c∈out,sc c):∀ l:List A1,(∀ c∈l,sc c)→(∀ c∈pushF out l,sc c)∧(pushF out l).length≤out.length+l.length:=by
 refine A65 (fun _=>⟨h2,by simp [pushF]⟩) (fun l c ih hl => ?_);obtain⟨a2,a3⟩:=ih fun x hx=>hl x (List.mem_append_left _ hx);rw [A7q];refine⟨fun d hd => ?_,?_⟩
 ·rcases B6z hd with hd | rfl
  ·exact a2 d hd
  ·exact hl _ (List.mem_append_right _ (List.mem_singleton.2 rfl))
 ·have:=(B70 (pushF out l) c).2;simp;omega
theorem B95 {n k:Nat} {q:C3} (h:Qn n q) {a:List A1} (ha:∀ c∈a,sc c) (hk:a.length≤k):Qn (n+k) (PushV q a).1:=by
 unfold PushV;split
 ·obtain⟨h1,h2⟩:=C1q h.all a ha;have:=h.len;exact⟨h1,(by show(pushF q.fPending a).length≤_;omega)⟩
 ·exact zQ_n
theorem B96 {n:Nat} {q:C3} (h:Qn n q) {y:C3×List A7×Int} (hy:SendV q y):Qn n y.1:=by
 rcases hy with ⟨_,hy⟩ | ⟨_,r,_,_,hy⟩
 ·rw [hy];exact zQ_n
 ·unfold SendR at hy;rw [hy];exact⟨fun c hc=>h.all c (List.mem_filter.1 hc).1,Nat.le_trans (B4s _ _) h.len⟩
theorem C2u {q:C3} (h:Qs q) {y:C3×List A7×Int} (hy:SendV q y):A3e y.2.1 y.2.1=some true:=by
 rcases hy with ⟨_,hy⟩ | ⟨hq,r,r1,r2,hy⟩
 ·rw [hy];exact B4r (by simp) (fun x hx=>by cases hx)
 ·have hch:=B3u h hq r1 r2;have hl:=B0x hch;unfold SendR at hy;rw [hy];exact B4r (by simp only [List.length_take];omega) (fun x hx=>B6w hch x (List.mem_of_mem_take hx))
theorem A92 {n:Nat} {q:C3} (h:Qn n q) (hn:n≤1000):A1u q q=some true:=by
 have hl:=h.len;unfold A1u;have:=B0y (l:=q.fPending) (by omega) fun c hc=>(h.all c hc).sm;simp [jn,this]
theorem C03 (d:A9) (hd:DeckOk d):Tot (A49 d) (fun r=>Qn 48 r.1∧DeckOk r.2):=by
 unfold A49;refine Tot.bindT (A55 d hd 4 (by omega) (by omega)) fun x1 h1 => ?_;have e1:w64 (1+x1.1)=1+x1.1:=H1 (by omega) (by omega);have e2:w64 (1+x1.1+1)=1+x1.1+1:=H1 (by omega) (by omega);rw [e1,e2];refine Tot.bindT (A55 x1.2 h1.2.2 _ (by omega) (by omega)) fun x2 h2 => ?_;refine Tot.bindT (A55 x2.2 h2.2.2 _ (by omega) (by omega)) fun x3 h3 => ?_;refine Tot.bindT (A55 x3.2 h3.2.2 4 (by omega) (by omega)) fun x4 h4 => ?_;obtain⟨n,hn,hn4⟩:∃ n:Nat,x4.1=n∧n≤3:=⟨x4.1.toNat,by omega,by omega⟩;rw [hn];have q0:Qn 0 (C3.mk [] (D9.mk x2.1 x3.1 (1+x1.1))):=⟨(fun c hc=>by cases hc),Nat.le_refl _⟩;refine Tot.bindLoop (fun s:Int×C3×A9=>∃ i:Nat,s.1=i∧i≤3∧Qn (16*(3-i)) s.2.1∧DeckOk s.2.2) (fun s=>s.1.toNat) (fun p:A9×C3=>Qn 48 p.2∧DeckOk p.1) ⟨n,rfl,hn4,q0.up (by omega),h4.2.2⟩ (fun s hs => ?_) (fun p hp=>Tot.some hp);obtain⟨s1,q,d⟩:=s;obtain⟨i,e,hi,hq,hd⟩:=hs;simp only at e hq hd;subst e;unfold A2r;refine Tot.ite (fun e => ?_) (fun e=>Tot.out ⟨hq.up (by omega),hd⟩);have hi0:0<i:=by have:=of_decide_eq_true e;simp only at this;omega
 obtain⟨u,rfl⟩:∃ u,i=u+1:=⟨i-1,by omega⟩;refine Tot.bindT (B1h d hd 5) fun r hr => ?_;obtain⟨⟨hcl,hc⟩,hd'⟩:=hr;refine Tot.bindOf (B73 (hq.qs (by omega)) hc (by omega)) ?_;have hq2:=(B95 hq hc hcl).up (m:=16*(3-u)) (by omega);refine Tot.jnR (fun m=>Qn (16*(3-u)) m) (fun j hj=>Tot.ite (fun _=>hj _ hq2) (fun _=>hj _ (hq.up (by omega)))) (fun m hm => ?_);refine Tot.bindT (A55 r.2 hd' 3 (by omega) (by omega)) fun x hx => ?_;refine Tot.jnR (fun m=>Qn (16*(3-u)) m) (fun j hj => ?_) (fun m hm => ?_)
 ·refine Tot.ite (fun _=>Tot.bindT (B4t (hm.qs (by omega))) fun y hy=>hj _ (B96 hm hy)) (fun _=>hj _ hm)
 ·have hw:=S8 (k:=u) (n:=3) (by omega) (by omega);refine Tot.next ⟨u,hw,by omega,hm,hx.2.2⟩ ?_;simp only;rw [hw];omega
-- the example
def c8:A1:=A1.mk 0 (A2.mk zA 8) false zR
theorem C3r:sc c8:=⟨Sm_z,zA_R⟩
theorem C3s:gd c8:=⟨⟨⟨⟨by decide,by decide⟩,.inr (by decide)⟩,by decide,by decide,by decide⟩,(fun e=>by cases e),(fun e=>by cases e)⟩
theorem awake31:A0b=some true:=by
 refine Tot.eq ?_;unfold A0b;have b0:bok (D9.mk 1 0 1):=⟨by decide,by decide,by decide⟩;have s0:Qs (C3.mk [] (D9.mk 1 0 1)):=⟨(fun c hc=>by cases hc),Nat.zero_le _⟩;have v0:qv (C3.mk [] (D9.mk 1 0 1)):=⟨b0,(fun c hc=>by cases hc),List.nodup_nil⟩;have hall:∀ c∈[c8],sc c:=fun c hc=>by rw [List.mem_singleton.1 hc];exact C3r
 have hgd:∀ c∈[c8],gd c:=fun c hc=>by rw [List.mem_singleton.1 hc];exact C3s
 have hp:pushF [] [c8]=[c8]:=rfl;have h1:=B91 s0 hall (by simp);rw [PushV,if_pos ⟨v0,hgd⟩,hp] at h1;have s1:Qs (C3.mk [c8] (D9.mk 1 0 1)):=⟨hall,by simp⟩;have v1:qv (C3.mk [c8] (D9.mk 1 0 1)):=⟨b0,hgd,by simp [pf]⟩;refine Tot.bindOf h1 ?_;refine Tot.bindT (B76 s1) fun y hy => ?_;rcases hy with ⟨n,_⟩ | ⟨_,r,r1,r2,hy⟩
 ·exact absurd v1 n
 have hr:r=[c8]:=List.perm_singleton.1 r1;have hpk:packF [c8]=[uW [c8.fPrefix]]:=by
  have e1:goneL [c8]=[c8.fPrefix]:=rfl;have e2:FO [c8]=[]:=by simp [FO,foS,c8]
  unfold packF;rw [e1,e2];simp [chunks,ck]
 have hcut:cut31 (D9.mk 1 0 1) [uW [c8.fPrefix]]=1:=rfl;unfold SendR at hy;rw [hr,hpk,hcut] at hy;have hkeep:keepF (SP ([uW [c8.fPrefix]].take 1)) [c8]=[]:=by
  simp [keepF,SP,nm,uW]
 rw [hkeep] at hy;subst hy;refine Tot.jn (Tot.iteT rfl ?_);refine Tot.bindOf (show A38 _=some true from rfl) (Tot.iteT rfl ?_);refine Tot.bindOf (show A38 _=some false from rfl) (Tot.some ?_);rfl
-- the law
theorem B78 {q:C3} (h:Qn 60 q) {a1:List A1} {r:List A1×A9} {a:List A1} (ha:∀ c∈a,sc c) (hk:a.length≤60) {k:Nat} (hk2:k<2) (hx:([r.1,a1]:List (List A1))[k]? = some a) :
  Tot (J2 a1 q r (k:Int)) (fun y=>y = .inr (w64 ((k:Int)+1))):=by
 unfold J2;refine Tot.iteT (decide_eq_true (by show(k:Int)<2;omega)) ?_;refine Tot.bindOf (x:=a) (B23 hx) ?_;refine Tot.bindOf (B91 (h.qs (by omega)) ha (by omega)) ?_;refine Tot.bindOf (B73 (h.qs (by omega)) ha (by omega)) ?_;refine Tot.jnR (fun b=>b=false) (fun j hj => ?_) (fun b hb=>by subst hb;exact Tot.iteF rfl (Tot.some rfl));refine Tot.iteF (by simp) ?_;exact Tot.bindOf (A92 (B95 h ha hk) (by omega)) (hj _ rfl)
theorem B82 {q:C3} (h:Qn 60 q) {a0:C3} {a1:List A1} (h1:∀ c∈a1,sc c) (h1l:a1.length≤60) {r29:C3×A9} {m:D9×List A1} {d:A9} (hd:DeckOk d) {k:Nat} (hk:k<3) (hx:([r29.1,a0,C3.mk m.2 m.1]:List C3)[k]? = some q) :
  Tot (J3 a0 a1 r29 m ((k:Int),d)) (fun y=>∃ d',y = .inr (w64 ((k:Int)+1),d')∧DeckOk d'):=by
 have hs:=h.qs (by omega:60≤300);unfold J3;refine Tot.iteT (decide_eq_true (by show(k:Int)<3;omega)) ?_;refine Tot.bindOf (x:=q) (B23 hx) ?_;refine Tot.jnR (fun b=>b=false) (fun j hj => ?_) (fun b hb => ?_)
 ·refine Tot.bindOf (qvalid hs) (Tot.bindOf (rvalidq hs) (Tot.iteF (by simp) ?_));refine Tot.bindOf (show A38 q=some _ from rfl) (Tot.bindOf (show A6k q=some _ from rfl) (hj _ (by simp)))
 ·subst hb;refine Tot.iteF rfl ?_;refine Tot.bindT (B1h d hd 5) fun r hr => ?_;obtain⟨⟨hcl,hc⟩,hd'⟩:=hr;refine Tot.bindRng 2 (fun i (_:Unit)=>(i:Int)) (fun _ _=>True) (fun x=>x = .inr ()) () rfl trivial (fun i _ hi _ => ?_) (fun _ _ => ?_) (fun x hx => ?_)
  ·have go:∀ a:List A1,(∀ c∈a,sc c)→a.length≤60→([r.1,a1]:List (List A1))[i]? = some a→Tot (J2 a1 q r (i:Int)) (Stp (fun i (_:Unit)=>(i:Int)) (fun _ _=>True) (fun x:Unit⊕Unit=>x = .inr ()) i):=fun a h2 h3 h4=>(B78 h h2 h3 hi h4).mono fun y hy=>by
    subst hy;exact⟨(),C0 hi (by omega),trivial⟩
   have:i=0∨i=1:=by omega
   rcases this with rfl | rfl
   ·exact go r.1 hc (by omega) rfl
   ·exact go a1 h1 h1l rfl
  ·unfold J2;exact Tot.iteF rfl (Tot.last rfl)
  ·subst hx;refine Tot.bindT (B76 hs) fun y hy => ?_;refine Tot.bindT (B4t hs) fun z hz => ?_;obtain rfl:=hy.uniq hz;refine Tot.jnR (fun b=>b=false) (fun j hj => ?_) (fun b hb=>by subst hb;exact Tot.iteF rfl (Tot.some ⟨_,rfl,hd'⟩));refine Tot.iteF (by simp) ?_;refine Tot.bindOf (A92 (B96 h hy) (by omega)) (Tot.iteF rfl ?_);exact Tot.bindOf (C2u hs hy) (hj _ rfl)
theorem B83 (a0:C3) {pb:Prop} (h0:((∀ y∈a0.fPending,rChg y)∧a0.fPending.length≤maxLen∧a0.fPending.length≤1048576)∧pb∧True) (a1:List A1) (h1:(∀ y∈a1,rChg y)∧a1.length≤maxLen∧a1.length≤1048576) (a2:List Int) (h2:(∀ y∈a2,I64 y)∧a2.length≤maxLen∧a2.length≤1048576) (a3:Int) {p3:Prop} (_:p3) (a4:Int) {p4:Prop} (_:p4):A12 a0 a1 a2 a3 a4=some true:=by
 refine Tot.eq ?_;unfold A12;refine Tot.ite (fun _=>Tot.bindOf awake31 (Tot.some rfl)) (fun e => ?_);rw [Bool.or_eq_false_iff] at e;have l0:a0.fPending.length≤40:=by have:=of_decide_eq_false e.1;omega
 have l1:a1.length≤40:=by have:=of_decide_eq_false e.2;omega
 have hall:∀ c∈a0.fPending++a1,rChg c:=fun c hc=>by
  rcases List.mem_append.1 hc with hc | hc
  ·exact h0.1.1 c hc
  ·exact h1.1 c hc
 have hlen:(a0.fPending++a1).length≤80:=by rw [List.length_append];omega
 refine Tot.chk (limB (by omega)) (Tot.chk (limB (by omega)) ?_);refine Tot.bindRng (a0.fPending++a1).length (fun i (_:Unit)=>(i:Int)) (fun i _=>∀ c∈(a0.fPending++a1).take i,Sm c.fRoute.fAttrs) (fun x=>x = .inl true∨(x = .inr ()∧∀ c∈a0.fPending++a1,Sm c.fRoute.fAttrs)) () rfl (by simp) (fun i _ hi hI => ?_) (fun _ hI => ?_) (fun x hx => ?_)
 ·unfold Q7;refine Tot.iteT (decide_eq_true (show(i:Int)<((a0.fPending++a1).length:Int) by omega)) (Tot.bindIdx i rfl hi (Tot.bindIdx i rfl hi ?_));refine Tot.bindT (B9z (hall _ (List.getElem_mem hi)).2.2.2.1.2.2.1) fun b hb => ?_;refine Tot.ite (fun _=>Tot.bindOf awake31 (Tot.stop (.inl rfl))) (fun e=>Tot.step () (C0 hi (by omega)) fun c hc => ?_);rw [F5 hi] at hc;rcases List.mem_append.1 hc with hc | hc
  ·exact hI c hc
  ·rw [List.mem_singleton.1 hc];exact hb (by simpa using e)
 ·unfold Q7;refine Tot.iteF (decide_eq_false (show ¬ ((a0.fPending++a1).length:Int)<((a0.fPending++a1).length:Int) by omega)) ?_;rw [List.take_length] at hI;exact Tot.last (.inr ⟨rfl,hI⟩)
 rcases hx with rfl | ⟨rfl,hsm⟩
 ·exact Tot.some rfl
 have hsc:∀ c∈a0.fPending++a1,sc c:=fun c hc=>⟨hsm c hc,B8t (hall c hc).2.1.1⟩;have q0:Qn 60 a0:=⟨fun c hc=>hsc c (List.mem_append_left _ hc),by omega⟩;have s1:∀ c∈a1,sc c:=fun c hc=>hsc c (List.mem_append_right _ hc);refine Tot.bindOf (x:=⟨a2,0⟩) rfl ?_;refine Tot.bindT (C03 ⟨a2,0⟩ (C3h a2 (by have:=h2.2.2;omega))) fun r hr => ?_;obtain⟨hq,hd⟩:=hr;have hql:=hq.len;refine Tot.chk (limB (by omega)) ?_;refine Tot.bindOf (B5g a3 3 (by omega) (by omega)) ?_;refine Tot.jnR (fun m=>Qn 60 (C3.mk m.2 m.1)) (fun j hj => ?_) (fun m hm => ?_)
 ·have same:∀ b:D9,Qn 60 (C3.mk r.1.fPending b):=fun b=>⟨hq.all,(by show r.1.fPending.length≤60;omega)⟩;refine Tot.ite (fun _=>Tot.bindOf (B5g a4 7 (by omega) (by omega)) (hj _ (same _))) (fun _ => ?_);refine Tot.ite (fun e => ?_) (fun _=>hj _ (same _));have hpos:0<r.1.fPending.length:=by have:=of_decide_eq_true e;omega
  obtain⟨m0,m1⟩:=B2u a4 (m:=(r.1.fPending.length:Int)) (by omega);obtain⟨t,ht⟩:∃ t:Nat,a4 % (r.1.fPending.length:Int)=t:=⟨(a4 % (r.1.fPending.length:Int)).toNat,by omega⟩;have htl:t<r.1.fPending.length:=by omega
  refine Tot.bindOf (B5g a4 _ (by omega) (by omega)) ?_;rw [ht];refine Tot.bindIdx t rfl htl (Tot.bindIdx t rfl htl (Tot.chk (limB (by simp;omega)) (hj _ ⟨fun c hc => ?_,(by show(r.1.fPending++_).length≤60;simp;omega)⟩)));rcases List.mem_append.1 hc with hc | hc
  ·exact hq.all c hc
  ·rw [List.mem_singleton.1 hc];exact hq.all _ (List.getElem_mem htl)
 ·refine Tot.bindRng (β:=A9) 3 (fun i d=>((i:Int),d)) (fun _ d=>DeckOk d) (fun x=>x = .inr ()) r.2 rfl hd (fun i d hi hI => ?_) (fun d hI => ?_) (fun x hx => ?_)
  ·have go:∀ q:C3,Qn 60 q→([r.1,a0,C3.mk m.2 m.1]:List C3)[i]? = some q→Tot (J3 a0 a1 r m ((i:Int),d)) (Stp (fun i (d:A9)=>((i:Int),d)) (fun _ d=>DeckOk d) (fun x:Unit⊕Unit=>x = .inr ()) i):=fun q g1 g2=>(B82 g1 s1 (by omega) hI hi g2).mono fun y hy=>by
    obtain⟨d',rfl,g3⟩:=hy;exact⟨d',by rw [C0 hi (by omega)],g3⟩
   have:i=0∨i=1∨i=2:=by omega
   rcases this with rfl | rfl | rfl
   ·exact go r.1 (hq.up (by omega)) rfl
   ·exact go a0 q0 rfl
   ·exact go _ hm rfl
  ·unfold J3;exact Tot.iteF rfl (Tot.last rfl)
  ·subst hx;refine Tot.jn ?_;refine Tot.bindOf (C2t (hq.qs (by omega))) (Tot.bindOf (C1p (hq.qs (by omega))) ?_);refine Tot.bindOf (A92 (n:=48) ⟨hq.all,hq.len⟩ (by omega)) (Tot.iteT rfl ?_);exact Tot.bindOf awake31 (Tot.some rfl)
end Go.Proofs.YtplbaenjbihekaaGreatDoor
