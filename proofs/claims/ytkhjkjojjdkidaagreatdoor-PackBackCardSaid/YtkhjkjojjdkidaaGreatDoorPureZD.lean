/- Decks of changes and the law, in plain Lean. -/
import Derived.Test.YtkhjkjojjdkidaaGreatDoorPureZC
import Derived.Test.YtkhjkjojjdkidaaGreatDoorVcMI
namespace Go.Proofs.YtkhjkjojjdkidaaGreatDoor
open Go Go.Vc
def rk (r:C7):Prop:=pV r.fPrefix∧∃ n x m,dOk n x m∧r=C7.mk r.fPrefix n (mkD n x m)∧bA x [r.fPrefix]=true
theorem copyRoute {r:C7} (h:rk r):R8 [r]=some [r]:=by
 obtain⟨_,n,x,m,_,e,_⟩:=h
 obtain⟨p,f,a⟩:=r
 simp only [C7.mk.injEq] at e
 obtain⟨_,rfl,rfl⟩:=e
 unfold R8
 rw [B2]
 simp [M8,idx,B8h,chk,LIM,F5]
 rw [B2]
 simp [M8]
theorem sameA0:H4 zR.fAttrs zR.fAttrs=some true:=by
 have e0:(loop (G5 zR.fAttrs zR.fAttrs) 0)=some (.inr ()):=by
  rw [B2];simp [G5,zR]
 have e1:(loop (I3 zR.fAttrs zR.fAttrs) 0)=some (.inr ()):=by
  rw [B2];simp [I3,zR]
 have e2:(loop (I4 zR.fAttrs zR.fAttrs) 0)=some (.inr ()):=by
  rw [B2];simp [I4,zR]
 have e3:(loop (I5 zR.fAttrs zR.fAttrs) 0)=some (.inr ()):=by
  rw [B2];simp [I5,zR]
 unfold H4
 simp [e0,e1,e2,e3,jn]
theorem B08 {r:C7} (h:rk r∨r=zR):J5 r r=some true:=by
 have ha:H4 r.fAttrs r.fAttrs=some true:=by
  rcases h with ⟨_,n,x,m,hd,e,_⟩ | rfl
  ·rw [e]
   have:isD (mkD n x m):=⟨n,x,m,hd,rfl⟩
   rw [B30 this this,B1p]
  ·exact sameA0
 unfold J5
 simp [jn,ha]
theorem B0k {r s:C7} (h:(rk r∧rk s)∨(r=zR∧s=zR)):Tot (J5 r s) (fun _=>True):=by
 have ha:∃ b,H4 r.fAttrs s.fAttrs=some b:=by
  rcases h with ⟨⟨_,n,x,m,hd,e,_⟩,_,n',x',m',hd',e',_⟩ | ⟨rfl,rfl⟩
  ·rw [e,e']
   exact⟨_,B30 ⟨n,x,m,hd,rfl⟩ ⟨n',x',m',hd',rfl⟩⟩
  ·exact⟨_,sameA0⟩
 obtain⟨b,hb⟩:=ha
 unfold J5
 refine Tot.jn (Tot.ite (fun _=>Tot.bindOf hb (Tot.some trivial)) (fun _=>Tot.some trivial))
theorem B34 {l:List C7} (hl:l.length≤1000) (p:A2):Tot (A0w l p) (fun r=>(r.2=true→r.1∈l∧r.1.fPrefix=p)∧(r.2=false→r.1=zR)):=by
 unfold A0w
 refine Tot.bindRng l.length (fun i (_:Unit)=>(i:Int)) (fun _ _=>True) (fun x=>x = .inr ()∨∃ r∈l,r.fPrefix=p∧x = .inl r) () rfl trivial (fun i _ hi _ => ?_) (fun _ _ => ?_) (fun x hx => ?_)
 ·unfold Y6
  refine Tot.iteT (decide_eq_true (by omega)) ?_
  refine Tot.bindIdx i rfl hi ?_
  refine Tot.ite (fun e => ?_) (fun _=>Tot.step () (E7 hi (by omega)) trivial)
  have e':peq l[i].fPrefix p=true:=e
  exact Tot.stop (.inr ⟨l[i],List.getElem_mem hi,A30.1 e',rfl⟩)
 ·unfold Y6
  refine Tot.iteF (decide_eq_false (by omega)) ?_
  exact Tot.last (.inl rfl)
 ·rcases hx with rfl | ⟨r,h1,h2,rfl⟩
  ·exact Tot.some ⟨(fun e=>by cases e),fun _=>rfl⟩
  ·exact Tot.some ⟨fun _=>⟨h1,h2⟩,(fun e=>by cases e)⟩
def asc (l:List A2):Prop:=l.Pairwise pLt
theorem B7y {l:List A2} {p:A2} (hR:∀ q∈l,aR q.fAddr) (hp:aR p.fAddr) (h:asc l) {k:Nat} (hk:k≤l.length) (h1:∀ (j:Nat) (hj:j<l.length),j<k→pLt l[j] p) (h2:∀ h:k<l.length,¬ pLt l[k] p∧l[k]≠p):asc (l.take k++[p]++l.drop k):=by
 have hb:∀ q∈l.take k,pLt q p:=fun q hq=>by
  rw [List.mem_take_iff_getElem] at hq
  obtain⟨j,hj,rfl⟩:=hq
  exact h1 j (by omega) (by omega)
 have ha:∀ q∈l.drop k,pLt p q:=fun q hq=>by
  obtain⟨j,hj,rfl⟩:=List.getElem_of_mem hq
  rw [List.getElem_drop]
  have hj':k+j<l.length:=by simpa using (by rw [List.length_drop] at hj;omega:k+j<l.length)
  have hkl:k<l.length:=by omega
  obtain⟨h3,h4⟩:=h2 hkl
  have hk0:pLt p l[k]:=Classical.byContradiction fun hn=>h4 (B7n (hR _ (List.getElem_mem hkl)) hp h3 hn)
  by_cases hj0:j=0
  ·subst hj0;exact hk0
  ·have:=List.pairwise_iff_getElem.1 h k (k+j) hkl hj' (by omega)
   exact B0y hp (hR _ (List.getElem_mem hkl)) (hR _ (List.getElem_mem hj')) hk0 this
 unfold asc at *
 rw [List.pairwise_append,List.pairwise_append]
 refine⟨⟨h.sublist (List.take_sublist k l),List.pairwise_singleton _ _,fun a ha' b hb'=>by rw [List.mem_singleton.1 hb'];exact hb a ha'⟩,h.sublist (List.drop_sublist k l),fun a ha' b hb' => ?_⟩
 rcases List.mem_append.1 ha' with h5 | h5
 ·exact B0y (hR _ (List.mem_of_mem_take h5)) hp (hR _ (List.mem_of_mem_drop hb')) (hb a h5) (ha b hb')
 ·rw [List.mem_singleton.1 h5];exact ha b hb'
theorem B41 {a b:List C7} {Q:A2→Prop} (qa:∀ r∈a,Q r.fPrefix) (qb:∀ r∈b,Q r.fPrefix) (ha:∀ r∈a,rk r) (hb:∀ r∈b,rk r) (hla:a.length≤100) (hlb:b.length≤100):Tot (A0d a b) (fun ps=>asc ps∧ps.length≤a.length+b.length∧∀ p∈ps,pV p∧Q p):=by
 unfold A0d
 refine Tot.chk (limB (by omega)) (Tot.chk (limB (by simp;omega)) ?_)
 have hab:∀ r∈a++b,rk r:=fun r hr=>by
  rcases List.mem_append.1 hr with h | h
  ·exact ha r h
  ·exact hb r h
 have hqb:∀ r∈a++b,Q r.fPrefix:=fun r hr=>by
  rcases List.mem_append.1 hr with h | h
  ·exact qa r h
  ·exact qb r h
 have hlen:(a++b).length=a.length+b.length:=List.length_append
 refine Tot.bindRng (β:=List A2) (a++b).length (fun i out=>((i:Int),out)) (fun i out=>asc out∧out.length≤i∧∀ p∈out,pV p∧Q p) (fun ps=>asc ps∧ps.length≤a.length+b.length∧∀ p∈ps,pV p∧Q p) [] rfl ⟨List.Pairwise.nil,Nat.le_refl _,(fun p hp=>by cases hp)⟩ (fun i out hi hI => ?_) (fun out hI => ?_) (fun x hx=>Tot.some hx)
 ·obtain⟨h1,h2,h3⟩:=hI
  have hp:=(hab _ (List.getElem_mem hi)).1
  have hpq:=hqb _ (List.getElem_mem hi)
  unfold T0
  refine Tot.iteT (decide_eq_true (show(i:Int)<((a++b).length:Int) by omega)) ?_
  refine Tot.bindIdx i rfl hi (Tot.bindIdx i rfl hi ?_)
  generalize hP:(a++b)[i]=x at hp hpq
  refine Tot.bindLoop (fun s:Int=>∃ k:Nat,s=k∧k≤out.length∧∀ (j:Nat) (hj:j<out.length),j<k→pLt out[j] x.fPrefix) (fun s=>((out.length:Int)-s).toNat) (fun s:Int=>∃ k:Nat,s=k∧k≤out.length∧(∀ (j:Nat) (hj:j<out.length),j<k→pLt out[j] x.fPrefix)∧∀ h:k<out.length,¬ pLt out[k] x.fPrefix) ⟨0,rfl,Nat.zero_le _,fun j hj h=>absurd h (by omega)⟩ (fun s hs => ?_) (fun s hs => ?_)
  ·obtain⟨k,rfl,h4,h5⟩:=hs
   unfold A03
   refine Tot.jnR (fun m=>(m=true→∃ h:k<out.length,pLt out[k] x.fPrefix)∧(m=false→∀ h:k<out.length,¬ pLt out[k] x.fPrefix)) (fun j hj => ?_) (fun m hm => ?_)
   ·refine Tot.ite (fun e => ?_) (fun e => ?_)
    ·have hk:k<out.length:=by have:=of_decide_eq_true e;simp only at this;omega
     refine Tot.bindIdx k rfl hk (Tot.bindIdx k rfl hk ?_)
     refine Tot.bindOf (B6e (h3 _ (List.getElem_mem hk)).1.addr.1 hp.addr.1) ?_
     refine hj _ ⟨fun e=>⟨hk,?_⟩,fun e h => ?_⟩
     ·exact(B1n _ _).1 (of_decide_eq_true e)
     ·intro hlt
      exact absurd ((B1n _ _).2 hlt) (of_decide_eq_false e)
    ·have hk:¬ k<out.length:=by have:=of_decide_eq_false e;simp only at this;omega
     exact hj _ ⟨(fun e=>by cases e),fun _ h=>absurd h hk⟩
   ·refine Tot.ite (fun e => ?_) (fun e => ?_)
    ·obtain⟨hk,hlt⟩:=hm.1 e
     have hw:=E7 hk (n:=out.length) (by omega)
     refine Tot.next ⟨k+1,hw,hk,fun j hj hjk => ?_⟩ (by rw [hw];omega)
     by_cases hjk':j=k
     ·subst hjk';exact hlt
     ·exact h5 j hj (by omega)
    ·exact Tot.out ⟨k,rfl,h4,h5,hm.2 e⟩
  ·obtain⟨k,rfl,h4,h5,h6⟩:=hs
   refine Tot.jnR (fun m=>m=true→∀ h:k<out.length,out[k]≠x.fPrefix) (fun j hj => ?_) (fun m hm => ?_)
   ·refine Tot.ite (fun e => ?_) (fun e => ?_)
    ·have hk:k=out.length:=by simp at e;omega
     exact hj _ fun _ h=>absurd h (by omega)
    ·have hk:k<out.length:=by simp at e;omega
     refine Tot.bindIdx k rfl hk (Tot.bindIdx k rfl hk ?_)
     refine hj _ fun e' h => ?_
     have e2:(!(peq out[k] x.fPrefix))=true:=e'
     intro h7
     rw [A30.2 h7] at e2;cases e2
   ·refine Tot.jnR (fun m'=>asc m'∧m'.length≤i+1∧∀ p∈m',pV p∧Q p) (fun j hj => ?_) (fun m' hm'=>Tot.step m' (by rw [E7 hi (by omega)]) hm')
    refine Tot.ite (fun e => ?_) (fun e=>hj _ ⟨h1,(show out.length≤i+1 by omega),h3⟩)
    have hkn:((k:Nat):Int).toNat=k:=by omega
    refine Tot.chk (by simp;omega) (Tot.chk (decide_eq_true (by show((k:Nat):Int).toNat+(out.length-((k:Nat):Int).toNat)≤out.length;omega)) (Tot.chk (limB (by simp;omega)) (Tot.chk (by simp;omega) (Tot.chk (limB (by simp;omega)) (Tot.chk (limB (by simp;omega)) ?_)))))
    refine hj _ ?_
    simp only [hkn]
    have ht:(out.drop k).take (out.length-k)=out.drop k:=List.take_of_length_le (by simp)
    rw [ht]
    refine⟨B7y (fun q hq=>(h3 q hq).1.addr.1) hp.addr.1 h1 h4 h5 fun h=>⟨h6 h,hm e h⟩,?_,fun p hp' => ?_⟩
    ·simp;omega
    ·rcases List.mem_append.1 hp' with h7 | h7
     ·rcases List.mem_append.1 h7 with h7 | h7
      ·exact h3 p (List.mem_of_mem_take h7)
      ·rw [List.mem_singleton.1 h7];exact⟨hp,hpq⟩
     ·exact h3 p (List.mem_of_mem_drop h7)
 ·unfold T0
  refine Tot.iteF (decide_eq_false (show ¬ ((a++b).length:Int)<((a++b).length:Int) by omega)) ?_
  exact Tot.last ⟨hI.1,(by show out.length≤a.length+b.length;have:=hI.2.1;omega),hI.2.2⟩
structure Chx (l:List A6):Prop where
 all:∀ c∈l,rt c
 ord:asc (l.map (·.fPrefix))
 len:l.length≤1000
theorem Chx.chs {l:List A6} (h:Chx l):Chs l:=by
 refine⟨fun c hc=>(h.all c hc).gd,fun i hi => ?_,h.len⟩
 have:=List.pairwise_iff_getElem.1 h.ord i (i+1) (by simp;omega) (by simpa using hi) (by omega)
 simpa using this
theorem B6r {a b:List C7} {Q:A2→Prop} (qa:∀ r∈a,Q r.fPrefix) (qb:∀ r∈b,Q r.fPrefix) (ha:∀ r∈a,rk r) (hb:∀ r∈b,rk r) (hla:a.length≤100) (hlb:b.length≤100) (to:Int):Tot (A2d to a b) (fun l=>Chx l∧l.length≤a.length+b.length∧∀ c∈l,c.fTo=to∧Q c.fPrefix):=by
 unfold A2d
 refine Tot.bindT (B41 qa qb ha hb hla hlb) fun ps hps => ?_
 obtain⟨p1,p2,p3⟩:=hps
 refine Tot.bindRng (β:=List A6) ps.length (fun i out=>((i:Int),out)) (fun i out=>(out.map (·.fPrefix)).Sublist (ps.take i)∧∀ c∈out,rt c∧c.fTo=to∧Q c.fPrefix) (fun l=>Chx l∧l.length≤a.length+b.length∧∀ c∈l,c.fTo=to∧Q c.fPrefix) [] rfl ⟨List.nil_sublist _,(fun c hc=>by cases hc)⟩ (fun i out hi hI => ?_) (fun out hI => ?_) (fun x hx=>Tot.some hx)
 ·obtain⟨h1,h2⟩:=hI
  have hlen:=h1.length_le
  unfold Y7
  refine Tot.iteT (decide_eq_true (show(i:Int)<(ps.length:Int) by omega)) ?_
  have hsn:ps.take (i+1)=ps.take i++[ps[i]]:=J2 hi
  refine Tot.jnR (fun m=>(m.map (·.fPrefix)).Sublist (ps.take (i+1))∧∀ c∈m,rt c∧c.fTo=to∧Q c.fPrefix) (fun j hj => ?_) (fun m hm=>Tot.step m (by rw [E7 hi (by omega)]) hm)
  refine Tot.bindIdx i rfl hi ?_
  refine Tot.bindT (B34 (by omega) _) fun x hx => ?_
  refine Tot.bindT (B34 (by omega) _) fun y hy => ?_
  have same:Tot (j out) _:=hj out ⟨by rw [hsn];exact h1.trans (List.sublist_append_left _ _),h2⟩
  have more:∀ r,(y.2=false→r=zR)→(y.2=true→rk r∧r.fPrefix=ps[i])→Tot (j (out++[A6.mk to ps[i] y.2 r])) _:=fun r hr0 hr1=>by
   refine hj _ ⟨?_,fun c hc => ?_⟩
   ·rw [hsn,List.map_append]
    exact h1.append (List.Sublist.refl _)
   ·rcases List.mem_append.1 hc with hc | hc
    ·exact h2 c hc
    ·rw [List.mem_singleton.1 hc]
     refine⟨⟨(p3 _ (List.getElem_mem hi)).1,hr0,fun e => ?_⟩,rfl,(p3 _ (List.getElem_mem hi)).2⟩
     obtain⟨⟨_,n,x,m,g1,g2,g3⟩,g4⟩:=hr1 e
     exact⟨n,x,m,g1,by rw [g4] at g2;exact g2,by rw [g4] at g3;exact g3⟩
  refine Tot.jnR (fun _=>True) (fun j1 hj1 => ?_) (fun m _ => ?_)
  ·refine Tot.ite (fun e => ?_) (fun e=>hj1 _ trivial)
   have e:x.2=y.2:=by simpa using e
   refine Tot.bindT (B0k ?_) fun _ _=>hj1 _ trivial
   cases hy2:y.2 with
   | true=>exact .inl ⟨ha _ (hx.1 (e.trans hy2)).1,hb _ (hy.1 hy2).1⟩
   | false=>exact .inr ⟨hx.2 (e.trans hy2),hy.2 hy2⟩
  ·refine Tot.ite (fun _=>same) (fun _ => ?_)
   have hml:out.length≤i:=by simpa [Nat.min_eq_left (Nat.le_of_lt hi)] using hlen
   refine Tot.jnR (fun r=>(y.2=false→r=zR)∧(y.2=true→rk r∧r.fPrefix=ps[i])) (fun j2 hj2 => ?_) (fun r hr=>Tot.chk (limB (by simp;omega)) (more r hr.1 hr.2))
   refine Tot.ite (fun e => ?_) (fun e=>hj2 _ ⟨fun _=>rfl,fun e'=>by rw [e] at e';cases e'⟩)
   have hy1:=hy.1 e
   refine Tot.bindOf (copyRoute (hb _ hy1.1)) ?_
   refine Tot.bindIdx 0 rfl (by simp) ?_
   exact hj2 _ ⟨(fun e'=>by rw [e] at e';cases e'),fun _=>⟨hb _ hy1.1,hy1.2⟩⟩
 ·unfold Y7
  refine Tot.iteF (decide_eq_false (show ¬ (ps.length:Int)<(ps.length:Int) by omega)) ?_
  obtain⟨h1,h2⟩:=hI
  rw [List.take_of_length_le (Nat.le_refl _)] at h1
  have:=h1.length_le
  rw [List.length_map] at this
  exact Tot.last ⟨⟨fun c hc=>(h2 c hc).1,p1.sublist h1,(by show out.length≤1000;omega)⟩,(by show out.length≤_;omega),fun c hc=>(h2 c hc).2⟩
-- the deck
def b4 (n:Int):A2:=A2.mk (C4.mk false 0 n) 16
def b6 (n:Int):A2:=A2.mk (C4.mk true n 0) 48
def BL:List A2:=[b4 167772160,b4 167837696,b4 167903232,b4 167968768,b4 168034304,b4 168099840,b6 2306139568115941376,b6 2306139568116006912]
def bk (p:A2):Prop:=p∈BL
theorem A89 {v:Bool} {hi lo:Nat} {n:Nat} (h1:hi<18446744073709551616) (h2:lo<18446744073709551616) (h3:v=true∨(hi=0∧lo<4294967296)) (h5:n≤wid v) (h6:cut (hi*18446744073709551616+lo) (wid v-n)=hi*18446744073709551616+lo):pV (A2.mk (C4.mk v hi lo) n):=by
 refine⟨⟨⟨?_,?_⟩,?_⟩,?_,?_,?_⟩
 ·show(0:Int)≤(hi:Int)∧(hi:Int)<18446744073709551616
  omega
 ·show(0:Int)≤(lo:Int)∧(lo:Int)<18446744073709551616
  omega
 ·rcases h3 with h3 | h3
  ·exact .inl h3
  ·refine .inr ⟨?_,?_⟩
   ·show(hi:Int)=0;omega
   ·show(lo:Int)<4294967296;omega
 ·show(0:Int)≤(n:Int);omega
 ·show(n:Int)≤((wid v:Nat):Int);omega
 ·show cut (nA (C4.mk v hi lo)) (wid v-((n:Nat):Int).toNat)=nA (C4.mk v hi lo)
  have e:nA (C4.mk v hi lo)=hi*18446744073709551616+lo:=by simp [nA]
  rw [e,Int.toNat_natCast];exact h6
theorem bk_V {p:A2} (h:bk p):pV p∧p.fLen≤48:=by
 unfold bk BL at h
 simp only [List.mem_cons,List.not_mem_nil,or_false] at h
 rcases h with rfl | rfl | rfl | rfl | rfl | rfl | rfl | rfl
 ·exact⟨A89 (v:=false) (hi:=0) (lo:=167772160) (n:=16) (by decide) (by decide) (by decide) (by decide) (by decide),(by show(16:Int)≤48;decide)⟩
 ·exact⟨A89 (v:=false) (hi:=0) (lo:=167837696) (n:=16) (by decide) (by decide) (by decide) (by decide) (by decide),(by show(16:Int)≤48;decide)⟩
 ·exact⟨A89 (v:=false) (hi:=0) (lo:=167903232) (n:=16) (by decide) (by decide) (by decide) (by decide) (by decide),(by show(16:Int)≤48;decide)⟩
 ·exact⟨A89 (v:=false) (hi:=0) (lo:=167968768) (n:=16) (by decide) (by decide) (by decide) (by decide) (by decide),(by show(16:Int)≤48;decide)⟩
 ·exact⟨A89 (v:=false) (hi:=0) (lo:=168034304) (n:=16) (by decide) (by decide) (by decide) (by decide) (by decide),(by show(16:Int)≤48;decide)⟩
 ·exact⟨A89 (v:=false) (hi:=0) (lo:=168099840) (n:=16) (by decide) (by decide) (by decide) (by decide) (by decide),(by show(16:Int)≤48;decide)⟩
 ·exact⟨A89 (v:=true) (hi:=2306139568115941376) (lo:=0) (n:=48) (by decide) (by decide) (by decide) (by decide) (by decide),(by show(48:Int)≤48;decide)⟩
 ·exact⟨A89 (v:=true) (hi:=2306139568116006912) (lo:=0) (n:=48) (by decide) (by decide) (by decide) (by decide) (by decide),(by show(48:Int)≤48;decide)⟩
theorem B6s {k:Nat} (hk:k<8):Tot (N2 (k:Int)) bk:=by
 have h:k=0∨k=1∨k=2∨k=3∨k=4∨k=5∨k=6∨k=7:=by omega
 have m:∀ (i:Nat) (hi:i<BL.length),bk BL[i]:=fun i hi=>List.getElem_mem hi
 rcases h with rfl | rfl | rfl | rfl | rfl | rfl | rfl | rfl
 ·exact⟨_,rfl,m 0 (by decide)⟩
 ·exact⟨_,rfl,m 1 (by decide)⟩
 ·exact⟨_,rfl,m 2 (by decide)⟩
 ·exact⟨_,rfl,m 3 (by decide)⟩
 ·exact⟨_,rfl,m 4 (by decide)⟩
 ·exact⟨_,rfl,m 5 (by decide)⟩
 ·exact⟨_,rfl,m 6 (by decide)⟩
 ·exact⟨_,rfl,m 7 (by decide)⟩
theorem B7z {n:Nat} (hn:101≤n∧n≤103) (v:Bool):Tot (O7 (n:Int) v) (fun x=>x.fV6=v∧∀ m:Int,0≤m∧m≤5→dOk n x m):=by
 have h:n=101∨n=102∨n=103:=by omega
 have key:∀ x:C4,x.fV6=v→aV x→x≠zA→(x.fV6=v∧∀ m:Int,0≤m∧m≤5→dOk n x m):=fun x h1 h2 h3=>⟨h1,fun m hm=>⟨by omega,h2,h3,by omega⟩⟩
 cases v with
 | false =>
  rcases h with rfl | rfl | rfl
  ·exact⟨C4.mk false 0 3221226086,rfl,key _ rfl ⟨⟨by decide,by decide⟩,.inr (by decide)⟩ (by simp [zA])⟩
  ·exact⟨C4.mk false 0 3221226087,rfl,key _ rfl ⟨⟨by decide,by decide⟩,.inr (by decide)⟩ (by simp [zA])⟩
  ·exact⟨C4.mk false 0 3221226088,rfl,key _ rfl ⟨⟨by decide,by decide⟩,.inr (by decide)⟩ (by simp [zA])⟩
 | true =>
  rcases h with rfl | rfl | rfl
  ·exact⟨C4.mk true 2306139568115613695 101,rfl,key _ rfl ⟨⟨by decide,by decide⟩,.inl rfl⟩ (by simp [zA])⟩
  ·exact⟨C4.mk true 2306139568115613695 102,rfl,key _ rfl ⟨⟨by decide,by decide⟩,.inl rfl⟩ (by simp [zA])⟩
  ·exact⟨C4.mk true 2306139568115613695 103,rfl,key _ rfl ⟨⟨by decide,by decide⟩,.inl rfl⟩ (by simp [zA])⟩
theorem bk_A {p:A2} (h:bk p) {x:C4} (hx:x.fV6=p.fAddr.fV6):bA x [p]=true:=by
 have hv:=bk_V h
 have hl:=hv.1.len0
 have hl2:=hv.2
 have hpc:pc p≤7:=by unfold pc;omega
 have hc:∀ v,clen v [p]≤7:=fun v=>by
  simp only [clen]
  split<;>omega
 have h1:=hc true
 have h2:=hc false
 have ha:aa x (clen true [p])≤100:=by
  have h3:=B84 (21+clen true [p])
  unfold aa alen
  split<;>omega
 refine A6p.2 ⟨by simp,?_,?_,by omega,by omega⟩
 ·intro q hq;rw [List.mem_singleton.1 hq];exact hv.1
 ·intro q hq;rw [List.mem_singleton.1 hq];exact hx.symm
theorem B35 (d:A7) (hd:DeckOk d) (to:Int):Tot (G9 d to) (fun r=>(Chx r.1∧r.1.length≤16∧∀ c∈r.1,c.fTo=to∧bk c.fPrefix)∧DeckOk r.2):=by
 unfold G9
 refine Tot.bindRng (β:=List C7×List C7×A7) 8 (fun i b=>((i:Int),b.1,b.2.1,b.2.2)) (fun i b=>((∀ r∈b.1,rk r∧bk r.fPrefix)∧b.1.length≤i)∧((∀ r∈b.2.1,rk r∧bk r.fPrefix)∧b.2.1.length≤i)∧DeckOk b.2.2) (fun p=>DeckOk p.1∧((∀ r∈p.2.1,rk r∧bk r.fPrefix)∧p.2.1.length≤8)∧((∀ r∈p.2.2,rk r∧bk r.fPrefix)∧p.2.2.length≤8)) ([],[],d) rfl ⟨⟨(fun r h=>by cases h),Nat.le_refl _⟩,⟨(fun r h=>by cases h),Nat.le_refl _⟩,hd⟩ (fun i b hi hI => ?_) (fun b hI => ?_) (fun p hp => ?_)
 ·obtain⟨la,lb,d⟩:=b
  obtain⟨⟨a1,a2⟩,⟨b1,b2⟩,hd⟩:=hI
  simp only at a1 a2 b1 b2 hd
  unfold G1
  refine Tot.iteT (decide_eq_true (show(i:Int)<8 by omega)) ?_
  refine Tot.bindT (B6s hi) fun p hp => ?_
  refine Tot.bindT (A5s d hd 3 (by omega) (by omega)) fun x1 h1 => ?_
  refine Tot.bindOf A7n ?_
  obtain⟨n,hn,hn'⟩:∃ n:Nat,w64 (101+x1.1)=(n:Int)∧101≤n∧n≤103:=by
   refine⟨(101+x1.1).toNat,?_,by omega,by omega⟩
   rw [F5 (by omega) (by omega)];omega
  rw [hn]
  refine Tot.bindT (B7z hn' p.fAddr.fV6) fun x hx => ?_
  refine Tot.bindT (A5s x1.2 h1.2.2 2 (by omega) (by omega)) fun x2 h2 => ?_
  refine Tot.bindT (A5s x2.2 h2.2.2 4 (by omega) (by omega)) fun x3 h3 => ?_
  have rkm:∀ m:Int,0≤m∧m≤5→rk (C7.mk p n (mkD n x m))∧bk p:=fun m hm=>⟨⟨(bk_V hp).1,n,x,m,hx.2 m hm,rfl,bk_A hp hx.1⟩,hp⟩
  have r1:=rkm x2.1 ⟨h2.1,by omega⟩
  have r5:=rkm 5 (by omega)
  have app:∀ {l:List C7} {r:C7},(∀ r∈l,rk r∧bk r.fPrefix)∧l.length≤i→rk r∧bk r.fPrefix→(∀ q∈l++[r],rk q∧bk q.fPrefix)∧(l++[r]).length≤i+1:=fun {l r} hl hr=>⟨fun q hq=>by
   rcases List.mem_append.1 hq with hq | hq
   ·exact hl.1 q hq
   ·rw [List.mem_singleton.1 hq];exact hr,by simp;omega⟩
  have keep:∀ {l:List C7},(∀ r∈l,rk r∧bk r.fPrefix)∧l.length≤i→(∀ q∈l,rk q∧bk q.fPrefix)∧l.length≤i+1:=fun hl=>⟨hl.1,by omega⟩
  refine Tot.jnR (fun m=>((∀ r∈m.1,rk r∧bk r.fPrefix)∧m.1.length≤i+1)∧((∀ r∈m.2,rk r∧bk r.fPrefix)∧m.2.length≤i+1)) (fun j hj => ?_) (fun m hm=>Tot.step (m.1,m.2,x3.2) (by rw [E7 hi (by omega)]) ⟨hm.1,hm.2,h3.2.2⟩)
  refine Tot.ite (fun _=>Tot.chk (limB (by simp;omega)) (hj _ ⟨keep ⟨a1,a2⟩,app ⟨b1,b2⟩ r1⟩)) (fun _ => ?_)
  refine Tot.ite (fun _=>Tot.chk (limB (by simp;omega)) (hj _ ⟨app ⟨a1,a2⟩ r1,keep ⟨b1,b2⟩⟩)) (fun _ => ?_)
  refine Tot.ite (fun _=>Tot.chk (limB (by simp;omega)) (Tot.chk (limB (by simp;omega)) (hj _ ⟨app ⟨a1,a2⟩ r5,app ⟨b1,b2⟩ r1⟩))) (fun _ => ?_)
  exact hj _ ⟨keep ⟨a1,a2⟩,keep ⟨b1,b2⟩⟩
 ·unfold G1
  refine Tot.iteF (decide_eq_false (show ¬ ((8:Nat):Int)<8 by decide)) ?_
  exact Tot.last ⟨hI.2.2,hI.1,hI.2.1⟩
 ·refine Tot.bindT (B6r (Q:=bk) (fun r hr=>(hp.2.2.1 r hr).2) (fun r hr=>(hp.2.1.1 r hr).2) (fun r hr=>(hp.2.2.1 r hr).1) (fun r hr=>(hp.2.1.1 r hr).1) (by omega) (by omega) to) fun r hr=>Tot.some ⟨⟨hr.1,(by have:=hp.2.1.2;have:=hp.2.2.2;have:=hr.2.1;show r.length≤16;omega),hr.2.2⟩,hp.1⟩
def asnA (a:C5):Int:=match a.fPath with
 | [s]=>s.fASNs.headD 0
 | _=>0
def wC (to:Int) (p:A2):A6:=A6.mk to p false zR
def aC (to:Int) (a:C5) (p:A2):A6:=A6.mk to p true (C7.mk p (asnA a) a)
theorem B80 {n m:Int} {x:C4} (h:dOk n x m):M2 (mkD n x m).fPath=some (n,true):=by
 unfold M2
 simp only [mkD,jn]
 rw [A9x h.asn]
 simp [idx]
theorem B81:M2 []=some (0,false):=by unfold M2;simp [jn]
theorem ulW {to:Int} {u:C9} {s:List A6} (hl:u.fWithdraw.length≤100000) (hs:s.length≤10000000):loop (K4 to u) ((0:Int),s)=some (s++u.fWithdraw.map (wC to)):=by
 refine Tot.eq ?_
 refine Tot.rng (β:=Unit) u.fWithdraw.length (fun i _=>((i:Int),s++(u.fWithdraw.take i).map (wC to))) (fun _ _=>True) _ () (by simp) trivial (fun i _ hi _ => ?_) (fun _ _ => ?_)
 ·unfold K4
  refine Tot.iteT (decide_eq_true (show(i:Int)<(u.fWithdraw.length:Int) by omega)) ?_
  refine Tot.bindIdx i rfl hi ?_
  refine Tot.chk (limB (by simp;omega)) ?_
  refine Tot.step () ?_ trivial
  rw [E7 hi (by omega),J2 hi,List.map_append,← List.append_assoc]
  rfl
 ·unfold K4
  refine Tot.iteF (decide_eq_false (show ¬ (u.fWithdraw.length:Int)<(u.fWithdraw.length:Int) by omega)) ?_
  refine Tot.last ?_
  rw [List.take_of_length_le (Nat.le_refl _)]
theorem ulA {to:Int} {u:C9} {s:List A6} {r:Int×Bool} (hc:u.fAnnounce=[]∨T5 u.fAttrs=some u.fAttrs∧r.1=asnA u.fAttrs) (hl:u.fAnnounce.length≤100000) (hs:s.length≤10000000):loop (P8 to u r) ((0:Int),s)=some (s++u.fAnnounce.map (aC to u.fAttrs)):=by
 refine Tot.eq ?_
 refine Tot.rng (β:=Unit) u.fAnnounce.length (fun i _=>((i:Int),s++(u.fAnnounce.take i).map (aC to u.fAttrs))) (fun _ _=>True) _ () (by simp) trivial (fun i _ hi _ => ?_) (fun _ _ => ?_)
 ·rcases hc with hc | hc
  ·rw [hc] at hi;cases hi
  ·unfold P8
   refine Tot.iteT (decide_eq_true (show(i:Int)<(u.fAnnounce.length:Int) by omega)) ?_
   refine Tot.bindIdx i rfl hi ?_
   refine Tot.bindOf hc.1 ?_
   refine Tot.chk (limB (by simp;omega)) ?_
   refine Tot.step () ?_ trivial
   rw [E7 hi (by omega),J2 hi,List.map_append,← List.append_assoc,hc.2]
   rfl
 ·unfold P8
  refine Tot.iteF (decide_eq_false (show ¬ (u.fAnnounce.length:Int)<(u.fAnnounce.length:Int) by omega)) ?_
  refine Tot.last ?_
  rw [List.take_of_length_le (Nat.le_refl _)]
def says (to:Int) (u:C9):List A6:=u.fWithdraw.map (wC to)++u.fAnnounce.map (aC to u.fAttrs)
def uOk (u:C9):Prop:=((u.fAttrs=noD∧u.fAnnounce=[])∨isD u.fAttrs)∧u.fWithdraw.length≤1000∧u.fAnnounce.length≤1000
theorem B5n {l:List C9} {to:Int} (h:∀ u∈l,uOk u) (hn:(l.flatMap (says to)).length≤1000) (hl:l.length≤4000000):T7 l to=some (l.flatMap (says to)):=by
 refine Tot.eq ?_
 unfold T7
 have part:∀ i,((l.take i).flatMap (says to)).length≤1000:=fun i=>by
  have:l.flatMap (says to)=(l.take i).flatMap (says to)++(l.drop i).flatMap (says to):=by rw [← List.flatMap_append,List.take_append_drop]
  rw [this,List.length_append] at hn
  omega
 refine Tot.bindRng (β:=Unit) l.length (fun i _=>((i:Int),(l.take i).flatMap (says to))) (fun _ _=>True) (fun r=>r=l.flatMap (says to)) () (by simp) trivial (fun i _ hi _ => ?_) (fun _ _ => ?_) (fun x hx=>Tot.some hx)
 ·obtain⟨h1,h2,h3⟩:=h _ (List.getElem_mem hi)
  have hp:=part i
  unfold P9
  refine Tot.iteT (decide_eq_true (show(i:Int)<(l.length:Int) by omega)) ?_
  refine Tot.bindIdx i rfl hi ?_
  refine Tot.bindOf (ulW (by omega) (by simp only;omega)) ?_
  have hf:∃ r,M2 l[i].fAttrs.fPath=some r∧(l[i].fAnnounce=[]∨T5 l[i].fAttrs=some l[i].fAttrs∧r.1=asnA l[i].fAttrs):=by
   rcases h1 with ⟨h4,h5⟩ | ⟨n,x,m,hd,e⟩
   ·rw [h4];exact⟨_,B81,.inl h5⟩
   ·rw [e];exact⟨_,B80 hd,.inr ⟨B4j,rfl⟩⟩
  obtain⟨r,hr,hc⟩:=hf
  refine Tot.bindOf hr ?_
  refine Tot.bindOf (ulA hc (by omega) (by rw [List.length_append,List.length_map];show((l.take i).flatMap (says to)).length+_≤_;omega)) ?_
  refine Tot.step () ?_ trivial
  rw [E7 hi (by omega),J2 hi,List.flatMap_append,List.append_assoc]
  simp [says]
 ·unfold P9
  refine Tot.iteF (decide_eq_false (show ¬ (l.length:Int)<(l.length:Int) by omega)) ?_
  refine Tot.last ?_
  rw [List.take_of_length_le (Nat.le_refl _)]
-- what lists cut into messages hold
section
variable {V:List A2→Bool}
theorem B1t:∀ (l cur:List A2),(ck V cur l).flatten=cur++l
 | [],cur=>by simp [ck]
 | p :: l,cur=>by
  simp only [ck]
  split
  ·rw [B1t l];simp
  ·rw [List.flatten_cons,B1t l];simp
theorem A8a (l:List A2):(chunks V l).flatten=l:=by
 cases l with
 | nil=>rfl
 | cons p l=>simp only [chunks];rw [B1t];rfl
theorem B1u:∀ (l cur:List A2),(∀ p∈l,V [p]=true)→V cur=true→cur≠[]→∀ c∈ck V cur l,V c=true∧c≠[]
 | [],cur,_,h,h0,c,hc=>by simp [ck] at hc;subst hc;exact⟨h,h0⟩
 | p :: l,cur,hl,h,h0,c,hc=>by
  simp only [ck] at hc
  split at hc
  ·rename_i hv
   exact B1u l _ (fun q hq=>hl q (List.mem_cons_of_mem _ hq)) hv (by simp) c hc
  ·rcases List.mem_cons.1 hc with rfl | hc
   ·exact⟨h,h0⟩
   ·exact B1u l _ (fun q hq=>hl q (List.mem_cons_of_mem _ hq)) (hl p (List.mem_cons_self ..)) (by simp) c hc
theorem A8b {l:List A2} (hl:∀ p∈l,V [p]=true):∀ c∈chunks V l,V c=true∧c≠[]:=fun c hc=>by
 cases l with
 | nil=>cases hc
 | cons p l=>exact B1u l [p] (fun q hq=>hl q (List.mem_cons_of_mem _ hq)) (hl p (List.mem_cons_self ..)) (by simp) c hc
end
theorem B09 {α β γ:Type} (msg:List α→β) (sy:β→List γ) (f:α→γ) (h:∀ c,sy (msg c)=c.map f):∀ L:List (List α),(L.map msg).flatMap sy=L.flatten.map f
 | []=>rfl
 | c :: L=>by rw [List.map_cons,List.flatMap_cons,h,B09 msg sy f h L,List.flatten_cons,List.map_append]
theorem B14 {α β γ:Type} (f:α→List β) (g:β→List γ):∀ A:List α,(A.flatMap f).flatMap g=A.flatMap fun a=>(f a).flatMap g
 | []=>rfl
 | a :: A=>by simp only [List.flatMap_cons,List.flatMap_append,B14 f g A]
noncomputable def UL (to:Int) (l:List A6):List A6:=(goneL l).map (wC to)++(FO l).flatMap fun a=>(sel a l).map (aC to a)
theorem B42 (to:Int) (l:List A6):(packF l).flatMap (says to)=UL to l:=by
 unfold packF UL
 rw [List.flatMap_append,B14]
 congr 1
 ·rw [B09 uW (says to) (wC to) (fun c=>by simp [says,uW]),A8a]
 ·congr 1
  funext a
  rw [B09 (uAa a) (says to) (aC to a) (fun c=>by simp [says,uAa]),A8a]
-- each change once
theorem A7q:∀ {l:List A2},asc l→l.Nodup:=fun {l} h=>List.Pairwise.imp (fun {a b} (hab:pLt a b) (e:a=b)=>B7o b (e ▸ hab)) h
theorem Chx.inj {l:List A6} (h:Chx l) {c c':A6} (hc:c∈l) (hc':c'∈l) (e:c.fPrefix=c'.fPrefix):c=c':=by
 obtain⟨i,hi,rfl⟩:=List.getElem_of_mem hc
 obtain⟨j,hj,rfl⟩:=List.getElem_of_mem hc'
 have hn:=A7q h.ord
 have e':(l.map (·.fPrefix))[i]'(by simpa using hi)=(l.map (·.fPrefix))[j]'(by simpa using hj):=by simpa using e
 have:=(List.getElem_inj hn).1 e'
 subst this;rfl
theorem B0a {α β:Type} (f:α→List β):∀ {A:List α},A.Nodup→(∀ a∈A,(f a).Nodup)→(∀ a∈A,∀ b∈A,a≠b→∀ x∈f a,x∉f b)→(A.flatMap f).Nodup
 | [],_,_,_=>List.nodup_nil
 | a :: A,hn,h1,h2=>by
  rw [List.flatMap_cons,List.nodup_append]
  rw [List.nodup_cons] at hn
  refine⟨h1 a (List.mem_cons_self ..),B0a f hn.2 (fun b hb=>h1 b (List.mem_cons_of_mem _ hb)) fun b hb c hc=>h2 b (List.mem_cons_of_mem _ hb) c (List.mem_cons_of_mem _ hc),fun x hx y hy e => ?_⟩
  subst e
  obtain⟨b,hb,hy⟩:=List.mem_flatMap.1 hy
  exact h2 a (List.mem_cons_self ..) b (List.mem_cons_of_mem _ hb) (fun e=>hn.1 (e ▸ hb)) x hx hy
noncomputable def UP (l:List A6):List A2:=goneL l++(FO l).flatMap fun a=>sel a l
theorem B15 (to:Int) (l:List A6):(UL to l).map (·.fPrefix)=UP l:=by
 unfold UL UP
 rw [List.map_append,List.map_map,List.map_flatMap]
 congr 1
 ·exact List.map_id' (goneL l) |> fun h=>by rw [show((fun c:A6=>c.fPrefix) ∘ wC to)=fun p=>p from rfl];exact h
 ·congr 1
  funext a
  rw [List.map_map,show((fun c:A6=>c.fPrefix) ∘ aC to a)=fun p=>p from rfl]
  exact List.map_id' _
theorem B36 {l:List A6} (h:Chx l):(UP l).Nodup:=by
 have hn:=A7q h.ord
 unfold UP
 rw [List.nodup_append]
 refine⟨?_,B0a _ (B32 l) (fun a _ => ?_) (fun a _ b _ hab x hx hx' => ?_),fun x hx y hy e => ?_⟩
 ·exact hn.sublist (List.Sublist.map _ List.filter_sublist)
 ·exact hn.sublist (List.Sublist.map _ List.filter_sublist)
 ·obtain⟨c,h1,h2,h3,h4⟩:=A3w hx
  obtain⟨c',g1,g2,g3,g4⟩:=A3w hx'
  have:=h.inj h1 g1 (h4.trans g4.symm)
  subst this
  exact hab (h3.symm.trans g3)
 ·subst e
  obtain⟨c,h1,h2,h3⟩:=A4k hx
  obtain⟨a,_,hy⟩:=List.mem_flatMap.1 hy
  obtain⟨c',g1,g2,g3,g4⟩:=A3w hy
  have:=h.inj h1 g1 (h3.trans g4.symm)
  subst this
  rw [h2] at g2;cases g2
theorem B6t {l:List A6} (p:A2):p∈UP l↔p∈l.map (·.fPrefix):=by
 unfold UP
 rw [List.mem_append]
 constructor
 ·rintro(h | h)
  ·obtain⟨c,h1,_,h3⟩:=A4k h
   exact List.mem_map.2 ⟨c,h1,h3⟩
  ·obtain⟨a,_,h⟩:=List.mem_flatMap.1 h
   obtain⟨c,h1,_,_,h4⟩:=A3w h
   exact List.mem_map.2 ⟨c,h1,h4⟩
 ·intro h
  obtain⟨c,hc,rfl⟩:=List.mem_map.1 h
  cases hh:c.fHas with
  | false =>
   left
   unfold goneL
   exact List.mem_map.2 ⟨c,List.mem_filter.2 ⟨hc,by rw [hh];rfl⟩,rfl⟩
  | true =>
   right
   refine List.mem_flatMap.2 ⟨c.fRoute.fAttrs,(B06 l _).2 ⟨c,hc,hh,rfl⟩,?_⟩
   unfold sel
   exact List.mem_map.2 ⟨c,List.mem_filter.2 ⟨hc,by rw [hh,B1p];rfl⟩,rfl⟩
theorem B43 {l:List A6} (h:Chx l):(UP l).length=l.length:=by
 have:=(List.perm_ext_iff_of_nodup (B36 h) (A7q h.ord)).2 fun p=>B6t p
 rw [this.length_eq,List.length_map]
theorem B6u {l:List A6} (h:Chx l) (to:Int):(UL to l).length=l.length:=by
 rw [← B43 h,← B15 to,List.length_map]
theorem B8n {l:List A6} (h:Chx l) {to:Int} {c:A6} (hc:c∈UL to l):∃ y∈l,c=A6.mk to y.fPrefix y.fHas y.fRoute:=by
 unfold UL at hc
 rcases List.mem_append.1 hc with hc | hc
 ·obtain⟨p,hp,rfl⟩:=List.mem_map.1 hc
  obtain⟨y,h1,h2,rfl⟩:=A4k hp
  exact⟨y,h1,by rw [h2,(h.all y h1).z h2];rfl⟩
 ·obtain⟨a,ha,hc⟩:=List.mem_flatMap.1 hc
  obtain⟨p,hp,rfl⟩:=List.mem_map.1 hc
  obtain⟨y,h1,h2,rfl,rfl⟩:=A3w hp
  obtain⟨n,x,m,_,e,_⟩:=(h.all y h1).h h2
  refine⟨y,h1,?_⟩
  rw [h2]
  unfold aC
  rw [e]
  rfl
theorem B8o {l:List A6} {to:Int} {i:Nat} (hi:i<(UL to l).length):(UL to l)[i].fHas=true↔(goneL l).length≤i:=by
 unfold UL at hi ⊢
 by_cases h:i<(goneL l).length
 ·rw [List.getElem_append_left (by simpa using h),List.getElem_map]
  simp only [wC]
  constructor
  ·intro e;cases e
  ·intro e;omega
 ·rw [List.getElem_append_right (by simpa using h)]
  constructor
  ·intro _;omega
  ·intro _
   have hm:=List.getElem_mem (l:=(FO l).flatMap fun a=>(sel a l).map (aC to a)) (n:=i-((goneL l).map (wC to)).length) (by simp at hi ⊢;omega)
   obtain⟨a,_,hm⟩:=List.mem_flatMap.1 hm
   obtain⟨p,_,e⟩:=List.mem_map.1 hm
   rw [← e];rfl
-- the law
theorem B6v {c:A6} (h:rt c):rk c.fRoute∨c.fRoute=zR:=by
 cases hh:c.fHas with
 | false=>exact .inr (h.z hh)
 | true =>
  obtain⟨n,x,m,h1,h2,h3⟩:=h.h hh
  left
  rw [h2]
  exact⟨h.val,n,x,m,h1,rfl,h3⟩
theorem B1v (p q:A2):keq29 p q=peq p q:=rfl
theorem B37 {k:A2}:∀ {l:List A2},k∉l→mix keq29 k (l.map fun p=>(p,(1:Int)))=none
 | [],_=>rfl
 | p :: l,h=>by
  rw [List.mem_cons,not_or] at h
  rw [List.map_cons,mix,if_neg,B37 h.2]
  ·rfl
  ·rw [B1v,A30];exact h.1
theorem B38 {k:A2}:∀ {l:List A2},k∈l→mget keq29 (l.map fun p=>(p,(1:Int))) k=some 1
 | [],h=>by cases h
 | p :: l,h=>by
  unfold mget
  rw [List.map_cons,mix]
  by_cases e:k=p
  ·rw [if_pos (by rw [B1v,A30];exact e)];rfl
  ·rw [if_neg (by rw [B1v,A30];exact e)]
   have:=B38 (List.mem_of_ne_of_mem e h)
   unfold mget at this
   rw [Option.map_map]
   exact this
theorem B6w {l:List A6} (h:Chx l) {c:A6} (hc:c∈UL 5 l):Tot (loop (L6 l c) (0:Int)) (fun x=>x = .inr ()):=by
 have hlen:=h.len
 obtain⟨y,hy,e⟩:=B8n h hc
 refine Tot.rng l.length (fun i (_:Unit)=>(i:Int)) (fun _ _=>True) _ () rfl trivial (fun i _ hi _ => ?_) (fun _ _ => ?_)
 ·unfold L6
  refine Tot.iteT (decide_eq_true (by omega)) ?_
  refine Tot.bindIdx i rfl hi ?_
  refine Tot.jnR (fun m=>m=false) (fun j hj => ?_) (fun m hm=>by subst hm;exact Tot.iteF rfl (Tot.step () (E7 hi (by omega)) trivial))
  refine Tot.ite (fun e1 => ?_) (fun _=>hj _ rfl)
  have e1:peq l[i].fPrefix c.fPrefix=true:=e1
  have e2:l[i]=y:=h.inj (List.getElem_mem hi) hy (by rw [A30.1 e1,e])
  rw [e2]
  refine Tot.iteF (by rw [e];simp) ?_
  have e3:c.fRoute=y.fRoute:=by rw [e]
  rw [e3]
  exact Tot.bindOf (B08 (B6v (h.all y hy))) (hj _ rfl)
 ·unfold L6
  refine Tot.iteF (decide_eq_false (by omega)) ?_
  exact Tot.last rfl
theorem B6x {l:List A6} (h:Chx l):Tot (loop (L7 l (UL 5 l)) ((0:Int),(0:Int),([]:List (A2×Int)))) (fun x=>x = .inr ((UP l).map fun p=>(p,(1:Int)))):=by
 have hlen:=h.len
 have hul:=B6u h 5
 have hup:=B43 h
 refine Tot.rng (UL 5 l).length (fun i (o:Int)=>(o,(i:Int),((UP l).take i).map fun p=>(p,(1:Int)))) (fun i o=>o=0∨(o=1∧(goneL l).length<i)) _ 0 (by simp) (.inl rfl) (fun i o hi hI => ?_) (fun o hI => ?_)
 ·unfold L7
  refine Tot.iteT (decide_eq_true (show(i:Int)<((UL 5 l).length:Int) by omega)) ?_
  refine Tot.bindIdx i rfl hi ?_
  refine Tot.bindT (B6w h (List.getElem_mem hi)) fun x hx => ?_
  subst hx
  have hpi:i<(UP l).length:=by omega
  have hp:(UL 5 l)[i].fPrefix=(UP l)[i]:=by
   have:((UL 5 l).map (·.fPrefix))[i]'(by simpa using hi)=(UP l)[i]:=by simp only [B15]
   simpa using this
  have hnot:(UP l)[i]∉(UP l).take i:=fun hm=>by
   rw [List.mem_take_iff_getElem] at hm
   obtain⟨j,hj,e⟩:=hm
   have:=(List.getElem_inj (B36 h)).1 e
   omega
  have hm0:=B37 hnot
  have hg0:mget keq29 (((UP l).take i).map fun p=>(p,(1:Int))) (UP l)[i]=none:=by unfold mget;rw [hm0];rfl
  refine Tot.jnR (fun o'=>o'=0∨(o'=1∧(goneL l).length<i+1)) (fun j hj => ?_) (fun o' ho' => ?_)
  ·have hu:=B8o hi
   cases hh:(UL 5 l)[i].fHas with
   | true =>
    have:=hu.1 hh
    exact Tot.iteT rfl (hj _ (.inr ⟨rfl,by omega⟩))
   | false =>
    have hn:¬ (goneL l).length≤i:=fun e=>by have:=hu.2 e;rw [hh] at this;cases this
    refine Tot.iteF rfl ?_
    rcases hI with rfl | ⟨_,hI⟩
    ·exact Tot.iteF rfl (hj _ (.inl rfl))
    ·omega
  ·refine Tot.step o' ?_ ho'
   rw [E7 hi (by omega),hp,hg0,A6w hm0,J2 hpi,List.map_append]
   rfl
 ·unfold L7
  refine Tot.iteF (decide_eq_false (show ¬ ((UL 5 l).length:Int)<((UL 5 l).length:Int) by omega)) ?_
  refine Tot.last ?_
  rw [List.take_of_length_le (by omega)]
theorem B6y {l:List A6} (h:Chx l):Tot (loop (L8 l ((UP l).map fun p=>(p,(1:Int)))) (0:Int)) (fun x=>x = .inr ()):=by
 have hlen:=h.len
 refine Tot.rng l.length (fun i (_:Unit)=>(i:Int)) (fun _ _=>True) _ () rfl trivial (fun i _ hi _ => ?_) (fun _ _ => ?_)
 ·unfold L8
  refine Tot.iteT (decide_eq_true (by omega)) ?_
  refine Tot.bindIdx i rfl hi ?_
  rw [B38 ((B6t _).2 (List.mem_map.2 ⟨l[i],List.getElem_mem hi,rfl⟩))]
  refine Tot.iteF rfl ?_
  exact Tot.step () (E7 hi (by omega)) trivial
 ·unfold L8
  refine Tot.iteF (decide_eq_false (by omega)) ?_
  exact Tot.last rfl
theorem B8p {p:A2} (h:pV p):bW [p]=true:=by
 have hpc:=(B6i h).1
 have hc:∀ v,clen v [p]≤17:=fun v=>by
  simp only [clen]
  split<;>omega
 have h1:=hc true
 have h2:=hc false
 have ha:aw (clen true [p])≤100:=by
  have h3:=B84 (3+clen true [p])
  unfold aw
  split<;>omega
 refine A6o.2 ⟨by simp,?_,by omega,by omega⟩
 intro q hq;rw [List.mem_singleton.1 hq];exact h
theorem B8q {c:List A2} (h:VW c):Tot (Z5 (uW c)) (fun n=>n≤4096):=by
 unfold Z5 A0e
 have hv:=B2y (l:=c) (fun p hp=>(h.val p hp).addr.1) (by have:=h.len;omega)
 have hp:=B4m h.val h.len
 refine Tot.bindT (P':=fun r=>r.2=0∧(r.1.length:Int)≤4077) ?_ fun r hr => ?_
 ·refine Tot.bindOf hv ?_
  rw [A6o.2 h]
  refine Tot.iteF rfl ?_
  refine Tot.bindT hp fun r hr=>Tot.some ?_
  have:=hr.2 ⟨h.att,h.all⟩
  rw [Bool.and_eq_true,beq_iff_eq,decide_eq_true_eq] at this
  exact this
 ·refine Tot.iteF (by simp [hr.1]) (Tot.some ?_)
  rw [F5 (by omega) (by omega)];omega
theorem B8r {n m:Int} {x:C4} (hd:dOk n x m) {c:List A2} (h:VA x c) (h0:c≠[]):Tot (Z5 (uA n x m c)) (fun n=>n≤4096):=by
 unfold Z5 A0e
 have hv:=B2z hd (l:=c) (fun p hp=>(h.val p hp).addr.1) (by have:=h.len;omega) h0
 have hp:=B4n hd h.val h.len h0 h.fam
 refine Tot.bindT (P':=fun r=>r.2=0∧(r.1.length:Int)≤4077) ?_ fun r hr => ?_
 ·refine Tot.bindOf hv ?_
  rw [A6p.2 h]
  refine Tot.iteF rfl ?_
  refine Tot.bindT hp fun r hr=>Tot.some ?_
  have:=hr.2 ⟨h.att,h.all⟩
  rw [Bool.and_eq_true,beq_iff_eq,decide_eq_true_eq] at this
  exact this
 ·refine Tot.iteF (by simp [hr.1]) (Tot.some ?_)
  rw [F5 (by omega) (by omega)];omega
theorem B16 {l:List A6} (h:Chs l) {u:C9} (hu:u∈packF l):(∃ c,u=uW c∧VW c∧c≠[])∨∃ n x m c,dOk n x m∧u=uA n x m c∧VA x c∧c≠[]:=by
 unfold packF at hu
 rcases List.mem_append.1 hu with hu | hu
 ·obtain⟨c,hc,rfl⟩:=List.mem_map.1 hu
  have:=A8b (V:=bW) (l:=goneL l) (fun p hp => ?_) c hc
  ·exact .inl ⟨c,rfl,A6o.1 this.1,this.2⟩
  ·obtain⟨y,hy,_,rfl⟩:=A4k hp
   exact B8p (h.all y hy).val
 ·obtain⟨a,ha,hu⟩:=List.mem_flatMap.1 hu
  obtain⟨c,hc,rfl⟩:=List.mem_map.1 hu
  have:=A8b (V:=bA a.fNext) (l:=sel a l) (fun p hp => ?_) c hc
  ·obtain⟨n,x,m,hd,rfl⟩:=h.foD ha
   exact .inr ⟨n,x,m,c,hd,rfl,A6p.1 this.1,this.2⟩
  ·obtain⟨y,hy,hh,rfl,rfl⟩:=A3w hp
   obtain⟨n,x,m,_,e,hb⟩:=(h.all y hy).att hh
   rw [e];exact hb
theorem B6z {l:List A6} (h:Chs l) (e:Int):Tot (loop (L9 (packF l,e)) (0:Int)) (fun x=>x = .inr ()):=by
 have hlen:=B13 h
 refine Tot.rng (packF l).length (fun i (_:Unit)=>(i:Int)) (fun _ _=>True) _ () rfl trivial (fun i _ hi _ => ?_) (fun _ _ => ?_)
 ·unfold L9
  refine Tot.iteT (decide_eq_true (show(i:Int)<((packF l).length:Int) by omega)) ?_
  refine Tot.bindIdx i rfl hi ?_
  refine Tot.jnR (fun m=>m=false) (fun j hj => ?_) (fun m hm=>by subst hm;exact Tot.iteF rfl (Tot.step () (E7 hi (by omega)) trivial))
  show Tot ((O8 (packF l)[i]).bind _) _
  have hm:=List.getElem_mem hi
  generalize (packF l)[i]=u at hm ⊢
  rcases B16 h hm with ⟨c,rfl,hv,h0⟩ | ⟨n,x,m,c,hd,rfl,hv,h0⟩
  ·have hl:=hv.len
   have hpos:=List.length_pos_iff.2 h0
   refine Tot.bindOf (B2y (l:=c) (fun p hp=>(hv.val p hp).addr.1) (by omega)) ?_
   rw [A6o.2 hv]
   refine Tot.iteF rfl (Tot.iteF ?_ ?_)
   ·simp only [uW,List.length_nil]
    rw [Bool.or_eq_false_iff]
    refine⟨by simp,?_⟩
    rw [beq_eq_false_iff_ne,F5 (by omega) (by omega)]
    omega
   ·exact Tot.bindT (B8q hv) fun r hr=>hj _ (decide_eq_false (by omega))
  ·have hl:=hv.len
   have hpos:=List.length_pos_iff.2 h0
   refine Tot.bindOf (B2z hd (l:=c) (fun p hp=>(hv.val p hp).addr.1) (by omega) h0) ?_
   rw [A6p.2 hv]
   refine Tot.iteF rfl (Tot.iteF ?_ ?_)
   ·simp only [uA,List.length_nil]
    rw [Bool.or_eq_false_iff]
    refine⟨by simp,?_⟩
    rw [beq_eq_false_iff_ne,F5 (by omega) (by omega)]
    omega
   ·exact Tot.bindT (B8r hd hv h0) fun r hr=>hj _ (decide_eq_false (by omega))
 ·unfold L9
  refine Tot.iteF (decide_eq_false (show ¬ ((packF l).length:Int)<((packF l).length:Int) by omega)) ?_
  exact Tot.last rfl
theorem B5o {l:List A6} (h:Chs l):∀ u∈packF l,uOk u:=fun u hu=>by
 rcases B16 h hu with ⟨c,rfl,hv,_⟩ | ⟨n,x,m,c,hd,rfl,hv,_⟩
 ·have:=hv.len
  exact⟨.inl ⟨rfl,rfl⟩,(by show c.length≤1000;omega),by simp [uW]⟩
 ·have:=hv.len
  exact⟨.inr ⟨n,x,m,hd,rfl⟩,by simp [uA],(by show c.length≤1000;omega)⟩
theorem B70 (a0:List Int) (h0:(∀ y∈a0,I64 y)∧a0.length≤maxLen) (a1:Int) {p1:Prop} (_:p1):A0n a0 a1=some true:=by
 refine Tot.eq ?_
 unfold A0n
 refine Tot.bindOf (show Q3 a0=some ⟨a0,0⟩ from rfl) ?_
 refine Tot.bindT (B35 _ (B8m a0 h0.2) 5) fun r2 hr2 => ?_
 refine Tot.bindOf (B6o a1 300 (by omega) (by omega)) ?_
 have g1:=Int.emod_nonneg a1 (show(300:Int)≠0 by omega)
 have g2:=Int.emod_lt_of_pos a1 (show(0:Int)<300 by omega)
 have e:a1 % 300=((a1 % 300).toNat:Int):=by omega
 rw [e]
 refine Tot.bindT (B6p r2.2 hr2.2 (by omega)) fun r4 hr4 => ?_
 have hx4:Chx r4.1:=by
  have hl:r4.1.length≤1000:=by omega
  have hc:=B7w hl hr4.2
  refine⟨fun c hc => ?_,?_,hl⟩
  ·obtain⟨k,hk,rfl⟩:=List.getElem_of_mem hc
   exact(hr4.2 k hk).rt (by omega)
  ·unfold asc
   rw [List.pairwise_iff_getElem]
   intro i j hi hj hij
   simp only [List.getElem_map]
   rw [(hr4.2 i (by simpa using hi)).p,(hr4.2 j (by simpa using hj)).p]
   exact .inl (.inr ⟨rfl,by rw [mP_n,mP_n];omega⟩)
 refine Tot.bindRng 2 (fun i (_:Unit)=>(i:Int)) (fun _ _=>True) (fun x=>x = .inr ()) () rfl trivial (fun i _ hi _ => ?_) (fun _ _ => ?_) (fun x hx => ?_)
 ·unfold Q0
  refine Tot.iteT (decide_eq_true (show(i:Int)<2 by omega)) ?_
  refine Tot.bindIdx i rfl hi ?_
  have hx:Chx ([r2.1,r4.1][i]'hi):=by
   have:i=0∨i=1:=by omega
   rcases this with rfl | rfl
   ·exact hr2.1.1
   ·exact hx4
  generalize [r2.1,r4.1][i]'hi=l at hx
  have hc:=hx.chs
  refine Tot.bindOf (B4o hc) ?_
  refine Tot.iteF rfl ?_
  have hlen:=hx.len
  have hsay:=B42 5 l
  refine Tot.bindOf (B5n (B5o hc) (by rw [hsay,B6u hx];omega) (Nat.le_trans (B13 hc) (by decide))) ?_
  rw [hsay]
  refine Tot.bindT (B6x hx) fun x hx1 => ?_
  subst hx1
  refine Tot.bindT (B6y hx) fun x hx1 => ?_
  subst hx1
  refine Tot.bindT (B6z hc 0) fun x hx1 => ?_
  subst hx1
  refine Tot.iteF (by rw [List.length_map,B43 hx];simp) ?_
  exact Tot.step () (E7 (n:=2) hi (by omega)) trivial
 ·unfold Q0
  refine Tot.iteF (decide_eq_false (show ¬ ((2:Nat):Int)<2 by decide)) ?_
  exact Tot.last rfl
 ·subst hx
  refine Tot.bindOf B6q ?_
  exact Tot.some rfl
end Go.Proofs.YtkhjkjojjdkidaaGreatDoor
