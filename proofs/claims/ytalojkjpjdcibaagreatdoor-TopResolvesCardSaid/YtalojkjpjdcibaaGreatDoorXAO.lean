/- Part of the proof that 'TopResolves' holds of every input: no condition. -/
import Derived.Test.YtalojkjpjdcibaaGreatDoorXAN
namespace Go.Top
open Go Go.Vc
def bc:MAC:=[255,255,255,255,255,255]
def askT (n k:Nat):ARP:=(1,macT (100+n),fourT n,List.replicate 6 0,fourT k)
def repT (n k:Nat):ARP:=(2,macT (100+k),fourT k,macT (100+n),fourT n)
def datT (a:ARP):List Int:=((f20 a hd6).map fun x=>x.1).getD []
def arpB (a:ARP):Bool:=f20 a hd6==some (datT a,0)&&(f19 (datT a) hd6==some (0,a)&&(datT a).length==28)
theorem B40:(List.range 15).all (fun n=>(List.range 15).all fun k=>arpB (askT n k)&&(arpB (repT n k)&&((f47 (macT (100+n)) (macT (100+k))).isSome)))=true:=by kernel_rfl
theorem B20:(List.range 15).all (fun n=>f85 (macT (100+n))==some false&&(f90 (macT (100+n))==some false&&f146 lan4 (fourT n)==some true || n==0))=true:=by kernel_rfl
structure ArpOk (a:ARP) (D:List Int):Prop where
  enc:f20 a hd6=some (D,0)
  dec:f19 D hd6=some (0,a)
  len:D.length=28
theorem A7x {a:ARP} (h:arpB a=true):∃ D,ArpOk a D:=by
  unfold arpB at h;simp only [Bool.and_eq_true,beq_iff_eq] at h;exact⟨datT a,h.1,h.2.1,h.2.2⟩
theorem arps {n k:Nat} (hn:n<15) (hk:k<15):(∃ D,ArpOk (askT n k) D)∧(∃ D,ArpOk (repT n k) D)∧∃ h,f47 (macT (100+n)) (macT (100+k))=some h:=by
  have h:=List.all_eq_true.1 (List.all_eq_true.1 B40 n (List.mem_range.2 hn)) k (List.mem_range.2 hk);simp only [Bool.and_eq_true] at h;exact⟨A7x h.1,A7x h.2.1,Option.isSome_iff_exists.1 h.2.2⟩
theorem A7y {n:Nat} (h0:1≤n) (hn:n<15):f85 (macT (100+n))=some false∧f90 (macT (100+n))=some false∧f146 lan4 (fourT n)=some true:=by
  have h:=List.all_eq_true.1 B20 n (List.mem_range.2 hn);have h1:(n==0)=false:=beq_eq_false_iff_ne.2 (by omega);rw [h1,Bool.or_false] at h;simp only [Bool.and_eq_true,beq_iff_eq] at h;exact⟨h.1,h.2.1,h.2.2⟩
theorem B5t {l:List Addr} {x:Addr} (h:l=[x]):f145 l x=some true:=by
  subst h;have he:Ty.eqT cAddr x x=true:=(eqAddr x x).2 rfl;have:loopF (f200L0 [x] x) 0=some (Sum.inr 0:Unit⊕Int):=E8 (n:=1) (by decide) (by
    simp only [iter,f200L0,show decide ((0:Int)<(([x]:List Addr).length:Int))=true from rfl,if_true,show idx [x] 0=some x from rfl,A0,he])
  simp only [f145,f200,this,A0,caseT];rfl
theorem B21 {l:List Int} (h:l.length=28):f92 l=some l:=by
  unfold f92;rw [if_pos (decide_eq_true (by omega)),A3 (lenLIM (by simp;omega)),List.nil_append]
def Four (n:Nat) (p:Port):Prop:=IsPort n p∧1≤n∧n≤14∧oneT p.2.2.2.2.1=[fourT n]
theorem A53 {n:Nat} {p:Port} (h:Four n p) {c:Int} {t:MAC} {a:ARP} {D:List Int} (ha:ArpOk a D) (h1:a.2.1=macT (100+n)) (h2:a.2.2.1=fourT n) (h3:f146 lan4 a.2.2.2.2=some true) (h4:f85 t=some false) (h5:f90 t=some false∨t=bc) :
    f42 (ruleT p c) lan4 lan6 (t,macT (100+n),0,2054,D) hd6=some 0:=by
  obtain⟨hp,_,_,hf⟩:=h;have hl:decide (1500<(D.length:Int))=false:=decide_eq_false (by rw [ha.len];decide);have hc:f84 (ruleT p c).2.2.2.1 (macT (100+n))=some true:=B4b (ms:=pmacs p) (X7 hp).1;have hv4:f145 (ruleT p c).2.2.2.2.1 (fourT n)=some true:=B5t hf;have he:Ty.eqT cMAC (macT (100+n)) (macT (100+n))=true:=(eqMac _ _).2 rfl;have h86:f86 (ruleT p c) lan4 (t,macT (100+n),0,2054,D) hd6=some 0:=by
    rcases h5 with h5 | rfl
    · simp only [f86,ha.dec,A0,show((0:Int) != 0)=false from rfl,Bool.false_eq_true,if_false,F0,h1,h2,he,Bool.not_true,hv4,h3,f43,h5]
    · have hb:f90 bc=some true:=rfl;have eb:Ty.eqT cMAC bc [255,255,255,255,255,255]=true:=(eqMac _ _).2 rfl;simp only [f86,ha.dec,A0,show((0:Int) != 0)=false from rfl,Bool.false_eq_true,if_false,F0,h1,h2,he,Bool.not_true,hv4,h3,f43,hb,f10,eb,if_true]
  simp only [f42,hl,Bool.false_eq_true,if_false,hc,A0,Bool.not_true,h4,show((0:Int) != 0)=false from rfl,show((2054:Int)==2054)=true from rfl,if_true,h86]
theorem send {l:List Port} {r:List Rule} (h:Row l) (hr:RulesOf l r) {b:List Binding} {i j:Nat} {p q:Port} (hp:l[i]? = some p) (hq:l[j]? = some q) {f:Fabric} (hf:FV f) (hsw:0≤p.2.1∧p.2.1<f.1) {fr out:Frame}
    (hg:∀ c,f42 (ruleT p c) lan4 lan6 fr hd6=some 0) (h43:∃ g,f43 fr=some g) (h45:f45 r b p.1 fr hd6=some (q.1,0,out)) (h47:∃ x,f47 fr.2.1 out.1=some x) :
    Tot (f12 r b lan4 lan6 f (3,2,3) p.1 fr hd6) (fun x=>(Rc f p.2.1 q.2.1→x.1=0∧x.2.1.1=q.1∧x.2.1.2.2=out)∧(¬ Rc f p.2.1 q.2.1→x.1=14)):=by
  obtain⟨c,_,e1⟩:=B1z h hr hp;obtain⟨c',_,e2⟩:=B1z h hr hq;obtain⟨g,eg⟩:=h43;obtain⟨hx,ex⟩:=h47;have rest:∀ u:Link,Tot ((f45 r b p.1 fr hd6).bind fun x3=>if (x3.2.1 != 0)=true then some (x3.2.1,(0,([]:List Int),(List.replicate 6 0),(List.replicate 6 0),0,0,([]:List Int)),u) else (f28 r x3.1).bind fun x4=>(f47 fr.2.1 x3.2.2.1).bind fun x5=>(f46 f (ruleT p c).2.2.1 x4.2.2.2.1 x5).bind fun x6=>Vc.jn (fun(u7:Bool)=>if u7=true then some (14,(0,([]:List Int),(List.replicate 6 0),(List.replicate 6 0),0,0,([]:List Int)),u) else some (0,(x3.1,x6.1,x3.2.2),u)) (fun t8=>if (!x4.1)=true then t8 true else t8 (!x6.2)))
      (fun x:Int×(Delivery×Link)=>(Rc f p.2.1 q.2.1→x.1=0∧x.2.1.1=q.1∧x.2.1.2.2=out)∧(¬ Rc f p.2.1 q.2.1→x.1=14)):=fun u=>by
    refine Tot.bindOf h45 (iteF rfl (Tot.bindOf e2 (Tot.bindOf ex (Tot.bindT (B3y hf hsw hx) fun w hw => ?_))));show Tot (if (!w.2)=true then _ else _) _;refine Tot.ite (fun hn=>Tot.some ⟨fun k => ?_,fun _=>rfl⟩) (fun hn=>Tot.some ⟨fun _=>⟨rfl,rfl,rfl⟩,fun k => ?_⟩)
    · have:=hw.2 k;rw [this] at hn;cases hn
    · have:w.2=true:=by simpa using hn
      exact absurd (hw.1 this) k
  unfold f12;refine Tot.bindOf e1 (iteF rfl (Tot.bindOf (hg c) (iteF rfl ?_)));rw [F0];refine Tot.bindOf eg (Tot.ite (fun _ => ?_) (fun _=>rest _));exact Tot.bindOf (show f44 (3,2,3)=some (true,2,2,3) from rfl) (iteF rfl (rest _))
end Go.Top
namespace Go.Top
open Go Go.Vc
theorem A54 {α:Type} {P:α→Bool}:∀ {l:List α},(∃ x∈l,P x=true)→∃ (i:Nat) (x:α),l[i]? = some x∧P x=true∧∀ j y,j<i→l[j]? = some y→P y=false
  | [],⟨x,hx,_⟩=>nomatch hx
  | a :: l,⟨x,hx,hp⟩=>by
    cases ha:P a with
    | true=>exact⟨0,a,rfl,ha,fun j y hj=>absurd hj (Nat.not_lt_zero _)⟩
    | false =>
      obtain⟨i,y,h1,h2,h3⟩:=A54 (l:=l) (by
        rcases List.mem_cons.1 hx with e | hx
        · rw [← e,hp] at ha;cases ha
        · exact⟨x,hx,hp⟩)
      refine⟨i+1,y,h1,h2,fun j z hj hz => ?_⟩;cases j with
      | zero=>simp only [List.getElem?_cons_zero,Option.some.injEq] at hz;rw [← hz];exact ha
      | succ j=>exact h3 j z (by omega) hz
theorem A7z {l:List Port} (h:Row l) {i j:Nat} {p q:Port} (hp:l[i]? = some p) (hq:l[j]? = some q) (hm:macT (100+(j+1))∈pmacs p):i=j:=by
  have hi:=N6 hp;have hj:=N6 hq;have:=h.1;exact Classical.byContradiction fun hne=>A9s (h.2 i p hp) (k:=j+1) (by omega) (by omega) (by omega) hm
theorem B5u {n:Nat} {p:Port} (h:IsPort n p):macT (100+n)∈pmacs p:=by rcases G1 h with e | e<;>rw [e]<;>simp
theorem B41 {n:Nat} {p:Port} (h:IsPort n p):mac0 p=macT (100+n):=by
  have:=(X7 h).1;show(pmacs p).headD []=_;rcases G1 h with e | e<;>rw [e]<;>rfl
theorem B6p {n:Nat} {p:Port} (h:IsPort n p):oneT p.2.2.2.2.2=[sixT n]∨oneT p.2.2.2.2.2=[]:=by
  have e6:oneT (sixT n)=[sixT n]:=by unfold oneT;rw [H2 N5];rfl
  have e0:oneT zeroA=[]:=by unfold oneT;rw [(eqAddr _ _).2 rfl];rfl
  rcases K7 h with ⟨_,h1⟩ | ⟨_,h1⟩ | ⟨_,h1⟩<;>rw [h1]
  · exact .inr e0
  · exact .inl e6
  · exact .inl e6
theorem T3 {α X:Type} {l:List α} (hl:l.length≤1000) {tb:Int→Option (X⊕Int)} {P:α→Bool} (h:∃ x∈l,P x=true) {v:X} (skip:∀ (i:Nat) a,l[i]? = some a→P a=false→tb (i:Int)=some (.inr ((i+1:Nat):Int))) (hit:∀ (i:Nat) a,l[i]? = some a→P a=true→tb (i:Int)=some (.inl v)):loopF tb 0=some v:=by
  obtain⟨i,x,h1,h2,h3⟩:=A54 h;have hi:=N6 h1;exact A9 (fun i=>(i:Int)) i (by omega) (fun j hj=>skip j _ (List.getElem?_eq_getElem (by omega)) (h3 j _ hj (List.getElem?_eq_getElem (by omega)))) (hit i x h1 h2)
theorem B22 {l:List Port} (h:Row l) {b:List Binding} (hb:b.Perm (bindsL l)) {j:Nat} {q:Port} (hq:l[j]? = some q) (h4:oneT q.2.2.2.2.1=[fourT (j+1)]):f153 b (fourT (j+1))=some (true,fourT (j+1),macT (100+(j+1)),q.1):=by
  have hin:(fourT (j+1),mac0 q,q.1)∈b:=hb.symm.mem_iff.1 (List.mem_flatten.2 ⟨bindsP q,List.mem_map.2 ⟨q,List.mem_of_getElem? hq,rfl⟩,by
    unfold bindsP;rw [h4];exact List.mem_cons_self ..⟩)
  have hu:∀ x∈b,x.1=fourT (j+1)→x=(fourT (j+1),macT (100+(j+1)),q.1):=fun x hx e=>by
    obtain⟨m,hm,hxm⟩:=List.mem_flatten.1 (hb.mem_iff.1 hx);obtain⟨p,hp,rfl⟩:=List.mem_map.1 hm;obtain⟨i,hi⟩:=List.getElem?_of_mem hp;have hip:=h.2 i p hi;obtain⟨a,ha,rfl⟩:=List.mem_map.1 hxm;simp only at e;subst e;have:i=j:=by
      rcases List.mem_append.1 ha with ha | ha
      · rcases B4c hip with e | e<;>rw [e] at ha
        · have:=A4s (List.mem_singleton.1 ha);omega
        · cases ha
      · rcases B6p hip with e | e<;>rw [e] at ha
        · exact absurd (List.mem_singleton.1 ha) R4
        · cases ha
    subst this;rw [hq] at hi;cases hi;rw [B41 hip]
  have hlen:b.length≤1000:=by rw [hb.length_eq];have:=P8 l;have:=h.1;omega
  have:=T3 (l:=b) hlen (tb:=f153L0 b (fourT (j+1))) (P:=fun x=>Ty.eqT cAddr x.1 (fourT (j+1))) (v:=(.inr (fourT (j+1),macT (100+(j+1)),q.1):Unit⊕Binding)) ⟨_,hin,(eqAddr _ _).2 rfl⟩ (fun i a ha hp=>by
    simp only [f153L0,B0 ha,if_true,A1 ha,A0,hp,Bool.false_eq_true,if_false,B3 ha (by omega)]) (fun i a ha hp=>by
    have e:=hu a (List.mem_of_getElem? ha) ((eqAddr _ _).1 hp);subst e;simp only [f153L0,B0 ha,if_true,A1 ha,A0,(eqAddr (fourT (j+1)) _).2 rfl])
  simp only [f153,this,A0,caseT]
theorem B23 {l:List Port} {r:List Rule} (h:Row l) (hr:RulesOf l r) {j:Nat} {q:Port} (hq:l[j]? = some q):f151 r (macT (100+(j+1)))=some (q.1,true):=by
  have hrl:=hr.len;have hl:=h.1;obtain⟨c0,hc0⟩:=hr.get j q hq;have hc0:r[j]? = some (ruleT q c0):=hc0;have port:∀ (i:Nat) a,r[i]? = some a→∃ p c,l[i]? = some p∧a=ruleT p c:=fun i a ha=>by
    have hi:=N6 ha;have hp:=List.getElem?_eq_getElem (show i<l.length by omega);obtain⟨c,hc⟩:=hr.get i _ hp;rw [ha] at hc;exact⟨_,c,hp,Option.some.inj hc⟩
  have:=T3 (l:=r) (by omega) (tb:=f151L0 r (macT (100+(j+1)))) (P:=fun x=>x.1==q.1) (v:=(.inr q.1:Unit⊕Int)) ⟨_,List.mem_of_getElem? hc0,beq_self_eq_true q.1⟩ (fun i a ha hp=>by
    obtain⟨p,c,e1,rfl⟩:=port i a ha;have hne:macT (100+(j+1))∉pmacs p:=fun hm=>by
      have:=A7z h e1 hq hm;subst this;rw [hq] at e1;cases e1;exact absurd hp (by rw [show(ruleT q c).1=q.1 from rfl,beq_self_eq_true];simp)
    have e84:f84 (ruleT p c).2.2.2.1 (macT (100+(j+1)))=some false:=B6o (ms:=pmacs p) (by have:=h.pmacs e1;omega) hne;simp only [f151L0,B0 ha,if_true,A1 ha,A0,e84,Bool.false_eq_true,if_false,B3 ha (by omega)]) (fun i a ha hp=>by
    obtain⟨p,c,e1,rfl⟩:=port i a ha;have:i=j:=Classical.byContradiction fun hne=>h.id_ne e1 hq hne (eq_of_beq hp);subst this;rw [hq] at e1;cases e1;have e84:f84 (ruleT q c).2.2.2.1 (macT (100+(i+1)))=some true:=B4b (ms:=pmacs q) (X7 (h.2 i q hq)).1;simp only [f151L0,B0 ha,if_true,A1 ha,A0,e84];rfl)
  simp only [f151,this,A0,caseT]
theorem A2o {p:Port} {m:MAC} (hl:(pmacs p).length≤100):loopF (f22L1 m p) 0=some (if m∈pmacs p then .inr p.1 else .inl ():Unit⊕Int):=by
  by_cases hm:m∈pmacs p
  · rw [if_pos hm];exact T3 (l:=pmacs p) (by omega) (P:=fun x=>Ty.eqT cMAC x m) ⟨m,hm,(eqMac _ _).2 rfl⟩ (fun i a ha hp=>by
      have ha:p.2.2.2.1[i]? = some a:=ha;simp only [f22L1,B0 ha,if_true,A1 ha,A0,hp,Bool.false_eq_true,if_false,B3 ha (by have:p.2.2.2.1.length≤100:=hl;omega)]) (fun i a ha hp=>by
      have ha:p.2.2.2.1[i]? = some a:=ha;simp only [f22L1,B0 ha,if_true,A1 ha,A0,hp])
  · rw [if_neg hm];refine D5 (l:=pmacs p) (by omega) (fun i a ha => ?_) ?_
    · have hne:Ty.eqT cMAC a m=false:=by
        cases hb:Ty.eqT cMAC a m with
        | false=>rfl
        | true=>exact absurd ((eqMac a m).1 hb ▸ List.mem_of_getElem? ha) hm
      have ha:p.2.2.2.1[i]? = some a:=ha;simp only [f22L1,B0 ha,if_true,A1 ha,A0,hne,Bool.false_eq_true,if_false,B3 ha (by have:p.2.2.2.1.length≤100:=hl;omega)]
    · have:decide (((pmacs p).length:Int)<(p.2.2.2.1.length:Int))=false:=C1 p.2.2.2.1;simp only [f22L1,this,Bool.false_eq_true,if_false]
theorem B24 {d:Database} (h:Made d) {j:Nat} {q:Port} (hq:(allP (owners d))[j]? = some q):f22 d (macT (100+(j+1)))=some q.1:=by
  obtain⟨l,e1,e2,e3⟩:=A7t h;have hr:=h.row;have hl:=hr.1;have port:∀ p∈l,macT (100+(j+1))∈pmacs p→p=q:=fun p hp hm=>by
    obtain⟨i,hi⟩:=List.getElem?_of_mem ((e3 p).1 hp);have:=A7z hr hi hq hm;subst this;rw [hq] at hi;cases hi;rfl
  have few:∀ p∈l,(pmacs p).length≤100:=fun p hp=>by
    obtain⟨i,hi⟩:=List.getElem?_of_mem ((e3 p).1 hp);have:=hr.pmacs hi;omega
  have:=T3 (l:=l) (by omega) (tb:=f22L0 (macT (100+(j+1))) l) (P:=fun p=>decide (macT (100+(j+1))∈pmacs p)) (v:=(.inr q.1:Unit⊕Int)) ⟨q,(e3 q).2 (List.mem_of_getElem? hq),decide_eq_true (B5u (hr.2 j q hq))⟩ (fun i a ha hp=>by
    have hm:=of_decide_eq_false hp;have:=A2o (m:=macT (100+(j+1))) (few a (List.mem_of_getElem? ha));rw [if_neg hm] at this;simp only [f22L0,B0 ha,if_true,A1 ha,A0,this,caseT,B3 ha (by omega)]) (fun i a ha hp=>by
    have hm:=of_decide_eq_true hp;have:=A2o (m:=macT (100+(j+1))) (few a (List.mem_of_getElem? ha));rw [if_pos hm] at this;have eq:=port a (List.mem_of_getElem? ha) hm;rw [eq] at this ha;simp only [f22L0,B0 ha,if_true,A1 ha,A0,this,caseT])
  simp only [f22,e1,A0,this,caseT]
end Go.Top
namespace Go.Top
open Go Go.Vc
theorem A80 {n:Nat} {p:Port} (h:IsPort n p):0≤p.2.1∧p.2.1<4:=by
  obtain⟨o,sw,spi,two,vc,h1,h2,h3,h4,rfl⟩:=h;exact⟨Int.natCast_nonneg _,by show(sw:Int)<4;omega⟩
theorem A81 {n:Nat} {p:Port} (h:IsPort n p) (h1:1≤n) (h2:n≤14) (hv:((oneT p.2.2.2.2.1).length:Int)≠0):Four n p:=⟨h,h1,h2,(B4c h).resolve_right fun e=>by rw [e] at hv;exact hv rfl⟩
theorem B5v {R:Rule} {T A:Addr} {M:MAC} {D:List Int} (h1:R.2.2.2.2.1=[A]) (h2:idx R.2.2.2.1 0=some M) (h3:f20 (1,M,A,List.replicate 6 0,T) hd6=some (D,0)):f18 R T hd6=some (bc,M,0,2054,D):=by
  refine Tot.eq ?_;unfold f18;rw [F0,h1];exact iteT rfl (Tot.bindOf (show idx [A] 0=some A from rfl) (Tot.bindOf h2 (Tot.bindOf (show f49 M A T=some (1,M,A,List.replicate 6 0,T) from rfl) (Tot.bindOf h3 (Tot.bindOf (show f10=some bc from rfl) (Tot.bindOf h2 (Tot.some rfl)))))))
theorem A55 {r:List Rule} {b:List Binding} {M M2:MAC} {A:Addr} {P1 P2:Int} {a:ARP} {D:List Int} (h1:f19 D hd6=some (0,a)) (h2:f153 b a.2.2.2.2=some (true,A,M2,P2)) (hne:(P2==P1)=false) (hl:D.length=28) :
    f45 r b P1 (bc,M,0,2054,D) hd6=some (P2,0,M2,M,0,2054,D):=by
  have hbc:f90 bc=some true:=rfl;have e10:Ty.eqT cMAC bc bc=true:=(eqMac _ _).2 rfl;have e152:f152 (bc,M,0,2054,D) hd6=some (true,a.2.2.2.2):=by
    refine Tot.eq ?_;unfold f152;rw [F0];exact iteT rfl (Tot.bindOf (show f10=some bc from rfl) (iteT e10 (Tot.bindOf h1 (iteT rfl (Tot.some rfl)))))
  have e91:f91 r b (bc,M,0,2054,D) hd6=some (P2,true,M2):=by
    refine Tot.eq ?_;unfold f91;exact Tot.bindOf hbc (iteF rfl (Tot.bindOf e152 (Tot.bindOf h2 (iteT rfl (Tot.some rfl)))))
  refine Tot.eq ?_;unfold f45;refine Tot.bindOf e91 ?_;rw [F0];refine iteF rfl ?_;rw [show(((P2,true,M2):Int×Bool×MAC).1==P1)=false from hne];exact iteF rfl (Tot.bindOf (B21 hl) (Tot.some rfl))
theorem A56 {r:List Rule} {b:List Binding} {M t:MAC} {P1 P2:Int} {D:List Int} (h1:f90 t=some false) (h2:f151 r t=some (P2,true)) (hne:(P2==P1)=false) (hl:D.length=28) :
    f45 r b P1 (t,M,0,2054,D) hd6=some (P2,0,t,M,0,2054,D):=by
  have e91:f91 r b (t,M,0,2054,D) hd6=some (P2,true,t):=by
    refine Tot.eq ?_;unfold f91;exact Tot.bindOf h1 (iteT rfl (Tot.bindOf h2 (Tot.some rfl)))
  refine Tot.eq ?_;unfold f45;refine Tot.bindOf e91 ?_;rw [F0];refine iteF rfl ?_;rw [show(((P2,true,t):Int×Bool×MAC).1==P1)=false from hne];exact iteF rfl (Tot.bindOf (B21 hl) (Tot.some rfl))
theorem B25 {t M:MAC} {D:List Int} {g:Bool} (h:f90 t=some g):∃ g,f43 (t,M,0,2054,D)=some g:=⟨g,by unfold f43;rw [h,A0]⟩
theorem B26 {l:List Port} {r:List Rule} (h:Row l) (hr:RulesOf l r) {b:List Binding} (hb:b.Perm (bindsL l)) {i j:Nat} {p q:Port} (hp:l[i]? = some p) (hq:l[j]? = some q) (hij:i≠j) (fp:Four (i+1) p) (fq:Four (j+1) q) {D:List Int} (ha:ArpOk (askT (i+1) (j+1)) D) {f:Fabric} (hf:FV f) (h4:4≤f.1) :
    Tot (f12 r b lan4 lan6 f (3,2,3) p.1 (bc,macT (100+(i+1)),0,2054,D) hd6) (fun x=>(Rc f p.2.1 q.2.1→x.1=0∧x.2.1.1=q.1∧x.2.1.2.2=(macT (100+(j+1)),macT (100+(i+1)),0,2054,D))∧(¬ Rc f p.2.1 q.2.1→x.1=14)):=by
  have hi:=fp.2.2.1;have hj:=fq.2.2.1;have hh:=(arps (n:=i+1) (k:=j+1) (by omega) (by omega)).2.2;have hsw:=A80 fp.1;have hne:(q.1==p.1)=false:=beq_eq_false_iff_ne.2 (h.id_ne hq hp (Ne.symm hij));have e45:=A55 (r:=r) (b:=b) (M:=macT (100+(i+1))) ha.dec (B22 h hb hq fq.2.2.2) hne ha.len;have hg:=fun c=>A53 fp (c:=c) (t:=bc) ha rfl rfl (A7y (n:=j+1) (by omega) (by omega)).2.2 rfl (.inr rfl);exact send h hr hp hq hf ⟨hsw.1,by omega⟩ hg (B25 (g:=true) rfl) e45 hh
theorem B27 {l:List Port} {r:List Rule} (h:Row l) (hr:RulesOf l r) {b:List Binding} {i j:Nat} {p q:Port} (hp:l[i]? = some p) (hq:l[j]? = some q) (hij:i≠j) (fp:Four (i+1) p) (fq:Four (j+1) q) {D:List Int} (ha:ArpOk (repT (i+1) (j+1)) D) {f:Fabric} (hf:FV f) (h4:4≤f.1) :
    Tot (f12 r b lan4 lan6 f (3,2,3) q.1 (macT (100+(i+1)),macT (100+(j+1)),0,2054,D) hd6) (fun x=>Rc f q.2.1 p.2.1→x.1=0∧x.2.1.1=p.1∧x.2.1.2.2=(macT (100+(i+1)),macT (100+(j+1)),0,2054,D)):=by
  have hi:=fp.2.2.1;have hj:=fq.2.2.1;have hh:=(arps (n:=j+1) (k:=i+1) (by omega) (by omega)).2.2;obtain⟨m1,m2,m3⟩:=A7y (n:=i+1) (by omega) (by omega);have hsw:=A80 fq.1;have hne:(p.1==q.1)=false:=beq_eq_false_iff_ne.2 (h.id_ne hp hq hij);have e45:=A56 (b:=b) (M:=macT (100+(j+1))) m2 (B23 h hr hp) hne ha.len;have hg:=fun c=>A53 fq (c:=c) ha rfl rfl m3 m1 (.inl m2);exact(send h hr hq hp hf ⟨hsw.1,by omega⟩ hg (B25 m2) e45 hh).mono fun x hx=>hx.1
theorem B6q {l:List Int} (hl:l.length≤9223372036854775807) (i k:Int) (m:Int):f4 l i k hd6 m pw deBr=some true:=by
  obtain⟨k0,d,hk,hm,h8⟩:=B63 hl;obtain⟨r,b,h7,hr,hb⟩:=B6m hm m;have hf:=hm.few;have hlen:=hr.len;have h:=hm.row;have h1:1≤(allP (owners d)).length:=by
    have h2:=hf.2.1
    match ho:owners d,h2 with
    | q :: ms,_ =>
      have:=(hm.own q (by rw [ho];exact List.mem_cons_self ..)).few.1;simp only [allP,List.map_cons,List.flatten_cons,List.length_append];omega
  have e4:d.1=lan4:=hm.lan4;have e6:d.2.1=lan6:=hm.lan6;have whose:=fun {j q} (hq:(allP (owners d))[j]? = some q)=>B24 hm hq;generalize allP (owners d)=P at *;obtain⟨v,h9,hv⟩:=B4a i (n:=r.length) (by omega) (by omega);obtain⟨w,h9',hw⟩:=B4a k (n:=r.length) (by omega) (by omega);have hp:=List.getElem?_eq_getElem (show v<P.length by omega);have hq:=List.getElem?_eq_getElem (show w<P.length by omega);generalize P[v]=p at hp;generalize P[w]=q at hq;obtain⟨c,hc⟩:=hr.get v p hp;have hc:r[v]? = some (ruleT p c):=hc;obtain⟨c',hc'⟩:=hr.get w q hq;have hc':r[w]? = some (ruleT q c'):=hc';refine Tot.eq ?_;unfold f4;refine Tot.bindOf (show f6 l=some () from rfl) (Tot.bindOf h8 (Tot.bindOf h7 (iteF rfl (Tot.bindT (B3z hl hk) fun F hF=>Tot.bindOf h9 (Tot.bindOf (A1 hc) (Tot.bindOf h9' (Tot.bindOf (A1 hc') ?_)))))));have aw:Tot ((f15 hd6 m pw deBr).bind fun x=>some x) (fun y=>y=true):=Tot.bindOf (B1y m) (Tot.some rfl);refine Tot.ite (fun _=>aw) (fun hid=>Tot.ite (fun _=>aw) (fun hv4=>Tot.ite (fun _=>aw) (fun hw4 => ?_)));have hvw:v≠w:=fun e=>by
    subst e;rw [hp] at hq;cases hq;exact absurd hid (by rw [show((ruleT p c).1==(ruleT p c').1)=true from beq_self_eq_true p.1];simp)
  have hP:=h.1;have fp:=A81 (h.2 v p hp) (by omega) (by omega) (beq_eq_false_iff_ne.1 hv4);have fq:=A81 (h.2 w q hq) (by omega) (by omega) (beq_eq_false_iff_ne.1 hw4);obtain⟨hFV,hF4⟩:=hF;have sp:=A80 fp.1;have sq:=A80 fq.1;have n1:v+1<15:=by omega
  have n2:w+1<15:=by omega
  obtain⟨⟨D,a1⟩,⟨D2,a2⟩,_⟩:=arps n1 n2;refine Tot.bindT (A9r hFV) fun L hL => ?_;obtain⟨x,hx,lx⟩:=hL.2 p.2.1.toNat (by omega);obtain⟨y,hy,ly⟩:=hL.2 q.2.1.toNat (by omega);rw [Int.toNat_of_nonneg sp.1] at lx;rw [Int.toNat_of_nonneg sq.1] at ly;have hx:idx L p.2.1=some x:=by have:=A1 hx;rwa [Int.toNat_of_nonneg sp.1] at this
  have hy:idx L q.2.1=some y:=by have:=A1 hy;rwa [Int.toNat_of_nonneg sq.1] at this
  have hrc:=Least.iff lx ly;refine Tot.jnR (fun u:Bool=>u=true↔Rc F.2 p.2.1 q.2.1) (fun j hj=>Tot.bindOf hx (Tot.bindOf hy (Tot.ite (fun e=>Tot.bindOf hx (hj _ ?_)) (fun e=>hj _ ?_)))) (fun u hu => ?_)
  · rw [← hrc,eq_of_beq e];simp
  · rw [← hrc];have:¬ x=y:=beq_eq_false_iff_ne.1 e;simp [this]
  · have eqv:idx (ruleT q c').2.2.2.2.1 0=some (fourT (w+1)):=by
      have:(ruleT q c').2.2.2.2.1=[fourT (w+1)]:=fq.2.2.2;rw [this];rfl
    have eqm:idx (ruleT q c').2.2.2.1 0=some (macT (100+(w+1))):=(X7 fq.1).2;have hs:=B26 h hr hb hp hq hvw fp fq a1 hFV hF4;simp only;rw [e4,e6];refine Tot.bindOf eqv (Tot.bindOf (B5v (R:=ruleT p c) fp.2.2.2 (X7 fp.1).2 a1.enc) (Tot.bindOf (show f13 2 3=some (3,2,3) from rfl) (Tot.bindT hs fun X hX=>Tot.ite (fun hu0 => ?_) (fun hu0 => ?_))))
    · have:X.1=14:=hX.2 fun k=>by rw [hu.2 k] at hu0;cases hu0
      exact iteT (by rw [this];rfl) aw
    · have hR:Rc F.2 p.2.1 q.2.1:=hu.1 (by simpa using hu0);obtain⟨x1,x2,x3⟩:=hX.1 hR;rw [x3];have he1:Ty.eqT cAddr (fourT (w+1)) (fourT (w+1))=true:=(eqAddr _ _).2 rfl;have he2:Ty.eqT cMAC (macT (100+(w+1))) (macT (100+(w+1)))=true:=(eqMac _ _).2 rfl;have hs2:=B27 h hr (b:=b) hp hq hvw fp fq a2 hFV hF4;refine Tot.bindOf a1.dec (iteF (by rw [x1];rfl) (iteF (by rw [x2];exact bne_self_eq_false _) (iteF rfl (Tot.bindOf eqv (iteF (by show(!Ty.eqT cAddr (fourT (w+1)) (fourT (w+1)))=false;rw [he1];rfl) (Tot.bindOf eqm ?_))))));refine Tot.bindOf (show f21 (askT (v+1) (w+1)) (macT (100+(w+1)))=some (repT (v+1) (w+1)) from rfl) (Tot.bindOf a2.enc (Tot.bindOf (show f13 2 3=some (3,2,3) from rfl) (Tot.bindOf eqm (Tot.bindT hs2 fun Y hY => ?_))));obtain⟨y1,y2,y3⟩:=hY hR.symm;rw [y3];refine Tot.bindOf a2.dec (iteT rfl (iteT (by rw [y1];rfl) (iteT (by rw [y2];exact beq_self_eq_true _) (iteT rfl (Tot.bindOf eqm (iteT he2 (Tot.bindOf eqv (iteT he1 (Tot.bindOf (whose hq) (iteT (beq_self_eq_true q.1) aw))))))))))
end Go.Top
