/- Part of the proof that 'TopFrames' holds of every input: no condition. -/
import Derived.Test.YtalojkjpjdcibaaGreatDoorXAE
import Derived.Test.YtalojkjpjdcibaaGreatDoorXAC
import Derived.Test.YtalojkjpjdcibaaGreatDoorXAF
import Derived.Lib.Bytealg
import Derived.KernelRfl
import Derived.Lib.UnsafeStr
namespace Go.Vc
open Go
variable {P:Program} {B:D5} {ops:Array Oper} {E:EL} {O:OL} {Q:Exit->EL->OL->Prop}
theorem AWp.cutG {M T G:Type} {c:Code} {rest:M->Option T} {body:(M->Option T)->Option T} {r:T} (h:jn rest body=some r) (pe:G->M->EL) (po:G->M->OL) (hj:∀ g m,rest m=some r->C04 B Q (pe g m) (po g m))
 (hb:∀ j:M->Option T,(∀ g m,j m=some r->C04 B Q (pe g m) (po g m))->body j=some r->AWp P B c Q E O):AWp P B c Q E O:=hb rest hj h
theorem AWp.loopG {S X G:Type} {c:Code} (tb:S->Option (X⊕S)) (pe:G->S->EL) (po:G->S->OL) (RX:X->Exit->EL->OL->Prop) {s:S} {x:X} (hl:Vc.loop tb s=some x)
  (hround:∀ g s y,tb s=some y->AWp P B c (λe E' O'=>match y with | .inr s'=>e = .normal∧∃ g',Mat B E' O' (pe g' s') (po g' s') | .inl x=>e ≠ .normal∧RX x e E' O') (pe g s) (po g s))
  (hq:∀ e E' O',RX x e E' O'->Q e E' O') (g:G) (m:Mat B E O (pe g s) (po g s)):AWp P B (.loop c) Q E O:=by
 refine AWp.ghost m ?_;obtain⟨n,hn⟩:=Pj hl;rw [B1v] at hn;refine AWp.mono (Q:=RX x) (λa w σ Z sm => ?_) hq;refine Yb n a w ?_;clear hl m;induction n generalizing s a w σ Z g with
 | zero=>cases hn
 | succ n ih =>
  simp only at hn;obtain⟨y,hy,hn⟩:=Option.bind_eq_some_iff.1 hn;refine wp_mono (hround g s y hy a w σ Z sm) λe a' w' ⟨E',O',σ',Z',q,s'⟩ => ?_;cases y with
  | inr t =>
   obtain⟨rfl,g',hm⟩:=q;obtain⟨σ'',Z'',s''⟩:=hm a' w' σ' Z' s';exact ih g' hn a' w' σ'' Z'' s''
  | inl x' =>
   obtain⟨h1,h2⟩:=q;simp only [Option.some.injEq] at hn;subst hn;cases e with
   | normal=>exact absurd rfl h1
   | _=>exact⟨E',O',σ',Z',h2,s'⟩
def LW (P:Program) (B:D5) (ops:Array Oper) (os:List Oper) (Q:Exit->EL->OL->Prop) (E:EL) (O:OL):Prop :=
 ∀ (a:Act) (w:World) (σ:Nat->Option Nat) (Z:Nat->Prop),Sim B (A1 E) (A1 O) a w σ Z->wpList P ops (λe a' w'=>∃ E' O' σ' Z',Q e E' O'∧Sim B (A1 E') (A1 O') a' w' σ' Z') os a w
theorem LW.nil (h:Q .normal E O):LW P B ops [] Q E O:=λ_ _ σ Z s=>⟨E,O,σ,Z,h,s⟩
theorem LW.needs {α:Eff} (e:(rE E α.nt,rO O α.no,rF O α.nf)=(rE' α.nt,rO' α.no,rF' α.nf)):α.needs (A1 E) (A1 O):=by
 simp only [Prod.mk.injEq,Lo,Ey,A6j,Yg,A6k,Yh] at e;exact⟨M7 e.1,M7 e.2.1,M7 e.2.2⟩
theorem LW.cons {o:Oper} {os:List Oper} {α:Eff} (h:OpJ P B ops o α) (e:(rE E α.nt,rO O α.no,rF O α.nf)=(rE' α.nt,rO' α.no,rF' α.nf)) (k:LW P B ops os Q (ap α.wt E) (ap α.wo O)):LW P B ops (o :: os) Q E O:=λa w σ Z s=>by
 rw [Cz,Cz] at k;refine wpList_step λK hK => ?_;exact h _ _ _ a w σ Z K s (LW.needs e) λa' w' σ' Z' s'=>hK _ _ (k a' w' σ' Z' (by rw [Kn,Ko];exact s'))
theorem AWp.ofLW {id:Nat} {l:List Oper} (h:LW P B l.toArray l Q E O):AWp P B (.region id l.toArray false) Q E O:=λa w σ Z s=>wp_region_lit (h a w σ Z s)
theorem B25 {α:Type} {pre q:List α} {i:Int} {x:α} (h:idx q i=some x):(pre++q)[pre.length+i.toNat]? = some x:=by
 rw [List.getElem?_append_right (by omega),show pre.length+i.toNat-pre.length=i.toNat from by omega];exact(P8 h).2
section
variable {d:Nat} {x y:Operand} {ty:TypeId} {pos:String} {af:Array Edge} {nt nt' nl:List (Nat×V)}
theorem OpJ.cutQ {α:Type} {t e:TypeId} {sz:Nat} {ag:Bool} (hu:P.underlying t=some (.slice e)) (ht:TyS P e sz ag) {nm:Nat} (f:α->D) {pre q:List α} {o:Operand} {k:IntKind} {n:Int} (ho:Opd o (.d (.int k n)) nl) (h0:0<=n)
  (h1:n.toNat<=q.length) (hN:d<B.N) (hx:Opd x (.sref nm sz pre.length q.length) nt) :
  OpJ P B ops ⟨some d,.slice t x (some o) none none,ty,pos,af,none⟩
   { nt:=nt++(nl++[]),no:=[(nm,.row e sz ((pre++q).map f))],wt:=[(d,.sref nm sz (pre++q.take n.toNat).length (q.drop n.toNat).length)],wo:=[(nm,some (.row e sz (((pre++q.take n.toNat)++q.drop n.toNat).map f)))] } :=
 OpJ.shrS (OpJ.cutS hu ht (obj:=.row e sz ((pre++q).map f)) (l:=n.toNat) (h:=q.length) (.inr ⟨o,k,n,rfl,ho,h0,rfl⟩) (.inl ⟨rfl,rfl,rfl⟩) h1 (Nat.le_refl _)
  (by rw [List.length_append,List.length_take,Nat.min_eq_left h1]) (by rw [List.length_drop]) hN hx) (Nat.le_refl _) (by rw [List.take_length,List.append_assoc,List.take_append_drop])
end
theorem Gh {Z:Nat->Prop} {w:World}:∀ {xs ys:List D} {cs:List Value},D.repL Z w (xs++ys) cs->∃ c1 c2,cs=c1++c2∧D.repL Z w xs c1∧D.repL Z w ys c2
 | [],_,cs,h=>⟨[],cs,rfl,rfl,h⟩
 | _ :: xs,ys,_,h=>by
  obtain⟨c1,c2,h1,h2,h3⟩:=h;obtain⟨d1,d2,g1,g2,g3⟩:=Gh (xs:=xs) (ys:=ys) h3;exact⟨c1++d1,d2,by rw [h1,g1,List.append_assoc],⟨c1,d1,rfl,h2,g2⟩,g3⟩
section
variable {d:Nat} {x y i:Operand} {ty:TypeId} {pos:String} {af:Array Edge} {nt nt':List (Nat×V)}
theorem OpJ.indexV {t e:TypeId} {len sz:Nat} {ag:Bool} (hu:P.underlying t=some (.array len e)) (ht:TyS P e sz ag) {es:List D} {k:IntKind} {n:Int} {el:D} (hel:el.isAgg=ag∧el.sz=sz) (h0:0<=n) (he:es[n.toNat]? = some el) (hN:d<B.N)
  (hx:Opd x (.d (.arr len sz es)) nt) (hi:Opd i (.d (.int k n)) nt') :
  OpJ P B ops ⟨some d,.index t x i,ty,pos,af,none⟩ { nt:=nt++nt',wt:=[(d,.d el)] } :=
 OpJ.pure rfl rfl hN λenv ob a w σ Z sm hne=>by
  obtain⟨h1,h2⟩:=B4 hne;obtain⟨cs,hv,hlen,hszs,hr⟩:=P2 (hx B env ob a w σ Z sm h1);have hv:a.eval x = .agg cs.toArray:=hv;have hin:=E6 (hi B env ob a w σ Z sm h2);have hlt:n.toNat<es.length:=(List.getElem?_eq_some_iff.1 he).1;obtain⟨c1,c2,c3,g1,g2,g3,g4,_⟩:=I5 (Z:=Z) (w:=w) hr he;have hc1:c1.length=n.toNat*sz:=by rw [g2,D.szL_all _ (λx hx=>hszs x (List.mem_of_mem_take hx)),List.length_take,Nat.min_eq_left (by omega)]
  have hs1:ag=false->sz=1:=λh=>by rw [<- hel.2];exact D.sz_one (by rw [hel.1,h])
  have hp:=I0 ht w c1 c2 c3 (g3.trans hel.2) hs1 hc1;refine⟨D3 ag c2,?_,D0.of (F3.of_cells (x:=.d el) g4 g3 (D.rep_one el c2 g4) ag hel.1) rfl⟩;have hb:n<(len:Int):=by omega
  rw [g1] at hv;simp only [execOp,hv,hin,Instr.index,asIntOf,Sem.run_bind,Sem.run_pure,Result.andThen_ok,run_underlying hu,if_pos (show 0<=n∧n<(len:Int) from⟨h0,hb⟩),ht.run_size,hp]
theorem LW.app {α:Type} {t e sz bytes:Nat} {os:List Oper} (hB:B.ok) (hu:P.underlying t=some (.slice e)) (he:TyE P e sz bytes) {n:Nat} (nm:Nat) (f:α->D) {pre q ys:List α} (hc:decide ((q++ys).length<=LIM)=true) (hN:d<B.N)
  (hx:Opd x (.sref n sz pre.length q.length) nt) (hy:Opd y (.d (.list sz (ys.map f))) nt') (e1:(rE E (nt++nt'),rO O [(n,.row e sz ((pre++q).map f))],rF O [nm])=(rE' (nt++nt'),rO' [(n,.row e sz ((pre++q).map f))],rF' [nm]))
  (k:∀ pre':List α,LW P B ops os Q ((d,.sref nm sz pre'.length (q++ys).length) :: E) ((nm,some (.row e sz ((pre'++(q++ys)).map f))) :: (n,none) :: O))
  (hnm:1000<=nm:=by decide) (hys:ys≠[]:=by simp) (hfs:∀ x,(f x).sz=sz:=by intro;rfl) (hb:Nat.ble bytes 32768=true:=by decide) :
  LW P B ops (⟨some d,.call { callee:=.builtin .append,args:=#[x,y],argTypes:=#[t,t] },ty,pos,af,none⟩ :: os) Q E O:=λa w σ Z sm=>by
 have hne:=LW.needs (α:={ nt:=nt++nt',no:=[(n,.row e sz ((pre++q).map f))],nf:=[nm] }) e1;obtain⟨h1,h2⟩:=B4 hne.1;have hob:A1 O n=some (some (.row e sz ((pre++q).map f))):=hne.2.1 (n,_) (by simp);have hl:live (A1 O) n:=⟨_,hob⟩;have hfr:A1 O nm=none:=hne.2.2 nm (by simp);have hnn:nm≠n:=λh=>by subst h;exact hl.used hfr
 have hro:=sm.obj n _ hob;have hxr:=hx B _ _ a w σ Z sm h1;obtain⟨ad,c,hv,hq1,hq2,hd⟩:=O9 hxr hl;obtain⟨adY,cY,hyv,_,_,hyd⟩:=U0 (hy B _ _ a w σ Z sm h2);obtain⟨ti,z,hi,hz,hs,hby,hzs⟩:=he.get;have hsz:=he.pos;have hall:∀ l:List α,∀ x∈l.map f,x.sz=sz:=λl x hx=>by
  obtain⟨y,_,rfl⟩:=List.mem_map.1 hx;exact hfs y
 obtain⟨bY,oY,haY,hzY,_,hreY⟩:=hyd.resolve_left (λh=>hys (List.map_eq_nil_iff.1 h));obtain⟨news,g1,g2⟩:=D.repL_of_repE (ys.map f) bY oY hreY (hall ys);have gl:=D.repL_len _ news g1;rw [D.szL_all _ (hall ys),List.length_map] at gl;have g2':∀ j u,news[j]? = some u->w.cell? ((⟨bY,oY,none⟩:Addr).add j)=some u:=λj u hj=>by rw [K6];exact g2 j u hj
 have g3:=D.repL_one _ news g1;have hlim:q.length+ys.length<=LIM:=by have:=of_decide_eq_true hc;rwa [List.length_append] at this
 have hlim':q.length+ys.length<=4294967296:=hlim;have hbl:bytes<=32768:=Nat.le_of_ble_eq_true hb;have hbytes:(q.length+ys.length)*bytes<=140737488355328:=Nat.le_trans (Nat.mul_le_mul hlim' hbl) (by decide);have hyl:(ys.map f).length=ys.length:=List.length_map ..
 have hrun:∃ (v':Value) (w':World) (pre':List α) (vo:Value) (cs:List Value),(Builtin.append_ #[t,t] ty #[a.eval x,a.eval y]).run P w = .ok v' w'∧w.grownBy w' (σ n) ∧
   w'.ownsRow 0 e sz vo (pre'++(q++ys)).length cs∧D.repL Z w ((pre'++(q++ys)).map f) cs∧(vo.ownBlock=σ n∨vo.ownBlock=some w.heap.size)∧(∃ b,vo.ownBlock=some b) ∧
   ∃ cc,v' = .slice (match vo.ownBlock with | some b=>some ⟨b,pre'.length*sz,none⟩ | none=>none) (q++ys).length cc∧(q++ys).length<=cc∧cc<=9223372036854775807∧∀ b,vo.ownBlock=some b->w'.shape? b=some (e,(pre'.length+cc)*sz):=by
  rw [hv,hyv,haY,hyl];have hq0:0<ys.length:=List.length_pos_iff.2 hys
  by_cases hroom:q.length+ys.length<=c
  ·
   have hcp:0<c:=by omega
   rcases hd with ⟨_,_,_,h0⟩ | ⟨b,e',hσ,had,hsh,_⟩
   ·omega
   have had:=had.resolve_left (by omega);obtain⟨cur,cap,xs,m1,m2,m3,m4,m5,m6,m7⟩:=Ob.row_cells hro hσ;have hcap:cap=pre.length+c:=by
    simp only [World.shape?,m1,Option.some.injEq,Prod.mk.injEq] at hsh;have:=hsh.2;rw [m2] at this;exact Nat.eq_of_mul_eq_mul_right hsz this
   have he':e'=e:=by
    simp only [World.shape?,m1,Option.some.injEq,Prod.mk.injEq] at hsh;exact hsh.1.symm
   subst he';have hel:((pre++q).map f).length=pre.length+q.length:=by rw [List.length_map,List.length_append]
   rw [hel] at m3 m6 m7;have hfit:(pre.length+q.length)*sz+news.length<=cur.size:=by
    rw [gl,m2,hcap,<- Nat.add_mul];exact Nat.mul_le_mul_right _ (by omega)
   have hst:=run_storeCells_at P b ((pre.length+q.length)*sz) e' news 0 cur w m1 (by simpa using hfit) g3;have hfc:=run_firstCells_some (P:=P) w ti.size ys.length ⟨bY,oY,none⟩ ys.length cY news (by rw [gl,hs]) g2';simp only [Nat.add_zero] at hst;refine⟨_,w.setRow b (cur.toList.take ((pre.length+q.length)*sz)++news++cur.toList.drop ((pre.length+q.length)*sz+news.length)).toArray,pre,.slice (some ⟨b,0,none⟩) (pre.length+(q.length+ys.length)) cap,xs++news,?_,⟨rfl,rfl,rfl,by simp,λk _ hk=>setRow_other w b k _ (λe=>hk (by rw [hσ,e]))⟩,⟨?_,.inr ⟨b,cap,_,by simp,Nat.zero_le _,setRow_heap w b cur _ e' _ m1,?_,?_,?_,?_⟩⟩,?_,.inl ?_,⟨b,rfl⟩,c,rfl,?_,hq2,?_⟩
   ·subst had;rw [hs] at hfc;simp [Builtin.append_,run_underlying hu,sizeOf,typeInfo,hi,Builtin.lenOf,hroom,hfc,Addr.add_lit,hs,<- Nat.add_mul,hst,Value.ownBlock]
   ·rw [List.length_append,m6,gl,<- Nat.add_mul];simp [Nat.add_assoc]
   ·simp;omega
   ·simpa [maxLen] using m4
   ·simp only [List.size_toArray,List.length_append,List.length_take,List.length_drop,Array.length_toList];omega
   ·rw [m7];simp only [List.toList_toArray];rw [show(pre++(q++ys)).length*sz=(xs++news).length from by rw [@List.length_append _ xs _,m6,gl,<- Nat.add_mul];simp [Nat.add_assoc]];exact List.take_left
   ·rw [show(pre++(q++ys)).map f=(pre++q).map f++ys.map f from by simp];exact D.repL_append _ _ _ _ m5 g1
   ·exact hσ.symm
   ·rw [List.length_append];exact hroom
   ·intro b' hb';have:b=b':=by simpa [Value.ownBlock] using hb'
    subst this;simp only [World.shape?,setRow_heap w b cur _ e' _ m1,Option.some.injEq,Prod.mk.injEq,true_and,List.size_toArray,List.length_append,List.length_take,List.length_drop,Array.length_toList];rw [<- hcap,<- m2];omega
  ·
   have hold:∃ olds:List Value,olds.length=q.length*sz∧D.repL Z w (q.map f) olds∧(∀ A,ad=some A->∀ j u,olds[j]? = some u->w.cell? (A.add j)=some u)∧(ad=none->q.length=0∧c=0):=by
    rcases hd with ⟨_,had,_,h0⟩ | ⟨b,e',hσ,had,hsh,_⟩
    ·have:q=[]:=List.eq_nil_of_length_eq_zero (by omega);subst this;exact⟨[],by simp,rfl,λ_ _ j u h=>by simp at h,λ_=>⟨rfl,h0⟩⟩
    ·by_cases h0:c=0
     ·have:q=[]:=List.eq_nil_of_length_eq_zero (by omega);subst this;exact⟨[],by simp,rfl,λ_ _ j u h=>by simp at h,λ_=>⟨rfl,h0⟩⟩
     ·have had:=had.resolve_left h0;obtain⟨cur,cap,xs,m1,m2,m3,m4,m5,m6,m7⟩:=Ob.row_cells hro hσ;rw [List.map_append] at m5;obtain⟨c1,c2,k1,k2,k3⟩:=Gh m5;have l1:=D.repL_len _ c1 k2;have l2:=D.repL_len _ c2 k3;rw [D.szL_all _ (hall pre),List.length_map] at l1;rw [D.szL_all _ (hall q),List.length_map] at l2;refine⟨c2,l2,k3,λA hA j u hj => ?_,λh=>by rw [had] at h;cases h⟩;rw [had] at hA;cases hA;have hjl:j<c2.length:=(List.getElem?_eq_some_iff.1 hj).1;rw [Addr.add_lit,cell_of_row w b (pre.length*sz+j) cur e' (0,0) (by
       have he':e'=e:=by
        simp only [World.shape?,m1,Option.some.injEq,Prod.mk.injEq] at hsh;exact hsh.1.symm
       rw [he'];exact m1),<- Array.getElem?_toList]
      have hx:xs[pre.length*sz+j]? = some u:=by
       rw [k1,List.getElem?_append_right (by omega),show pre.length*sz+j-c1.length=j from by omega];exact hj
      rw [<- m7,List.getElem?_take] at hx;split at hx
      ·exact hx
      ·cases hx
   obtain⟨olds,o1,o2,o3,o4⟩:=hold;have h63:q.length+ys.length<=maxLen:=by simp only [maxLen];omega
   have hge:=grownCap_ge w (q.length+ys.length) c e;have hcm:grownCap w (q.length+ys.length) c e<=maxLen:=grownCap_le_maxLen w (q.length+ys.length) c e h63;have hsize:(olds.toArray++news.toArray++Builtin.zeroCells z.cells (grownCap w (q.length+ys.length) c e-(q.length+ys.length))).size=grownCap w (q.length+ys.length) c e*sz:=by
    simp only [Array.size_append,List.size_toArray,size_zeroCells,hzs,o1,gl,<- Nat.add_mul];congr 1;omega
   have hnew:(w.drew.alloc (.cells (olds.toArray++news.toArray++Builtin.zeroCells z.cells (grownCap w (q.length+ys.length) c e-(q.length+ys.length))) e)).heap[w.heap.size]? = some (.cells (olds.toArray++news.toArray++Builtin.zeroCells z.cells (grownCap w (q.length+ys.length) c e-(q.length+ys.length))) e (0,0)):=heap_alloc_new w.drew _;refine⟨.slice (some ⟨w.heap.size,0,none⟩) (q.length+ys.length) (grownCap w (q.length+ys.length) c e),w.drew.alloc (.cells (olds.toArray++news.toArray++Builtin.zeroCells z.cells (grownCap w (q.length+ys.length) c e-(q.length+ys.length))) e),[],
    .slice (some ⟨w.heap.size,0,none⟩) (q.length+ys.length) (grownCap w (q.length+ys.length) c e),olds++news,?_,⟨rfl,rfl,rfl,by simp,λk hk _=>_root_.Go.heap_alloc_old w.drew _ hk⟩,⟨?_,.inr ⟨w.heap.size,_,_,by simp,Nat.zero_le _,hnew,?_,hcm,hsize,?_⟩⟩,?_,.inr rfl,⟨_,rfl⟩,grownCap w (q.length+ys.length) c e,?_,?_,?_,?_⟩
   ·cases hA:ad with
    | none =>
     obtain⟨p1,p2⟩:=o4 hA;have:olds=[]:=List.eq_nil_of_length_eq_zero (by rw [o1,p1];simp);subst this;have hr:=run_append_nil (P:=P) w t ty e ti z hu hi hz ⟨bY,oY,none⟩ ys.length cY news (by rw [gl,hs]) g2' hq0 (by omega) (by rw [hby];have:=hbytes;rw [p1,Nat.zero_add] at this;omega);rw [p1,p2];simpa using hr
    | some A =>
     exact run_append_grow (P:=P) w t ty e ti z hu hi hz A q.length c olds (by rw [o1,hs]) (o3 A hA) ⟨bY,oY,none⟩ ys.length cY news (by rw [gl,hs]) g2' (by omega) (by omega) (by rw [hby];exact growslice_fits (by omega) hbytes)
   ·rw [List.length_append,o1,gl,<- Nat.add_mul];simp
   ·simp;omega
   ·have hln:([]++(q++ys)).length*sz=(olds++news).length:=by rw [@List.length_append _ olds _,o1,gl,<- Nat.add_mul];simp
    rw [hln];simp only [Array.toList_append];exact List.take_left
   ·rw [List.nil_append,List.map_append];exact D.repL_append _ _ _ _ o2 g1
   ·simp [Value.ownBlock]
   ·simp;omega
   ·simpa [maxLen] using hcm
   ·intro b' hb';have:w.heap.size=b':=by simpa [Value.ownBlock] using hb'
    subst this;have:∀ cur:Array Value,(w.drew.alloc (.cells cur e)).heap[w.heap.size]? = some (.cells cur e (0,0))->cur.size=grownCap w (q.length+ys.length) c e*sz->(w.drew.alloc (.cells cur e)).shape? w.heap.size=some (e,grownCap w (q.length+ys.length) c e*sz):=λcur h1 h2=>by
     simp only [World.shape?,h1,h2]
    rw [this _ hnew hsize];simp
 obtain⟨v',w',pre',vo,cs,hr,hgr,hown,hrep,hat,⟨bo,hbo⟩,cc,hv',hcc1,hcc2,hshp⟩:=hrun;have sk:=sm.kill n;have hlv:∀ m,live (B9 (A1 O) n none) m->m≠n∧live (A1 O) m:=λm hm=>by
  rw [C1] at hm
  by_cases hmn:m=n
  ·rw [if_pos hmn] at hm;simp at hm
  ·rw [if_neg hmn] at hm;exact⟨hmn,hm⟩
 have s2:=sk.rowNew sm (Fx (A1 O) n) hB (nm:=nm) (by simp [B9,hnn,hfr]) hnm hgr
  (λm b hm hb e=>(hlv m hm).1 (sm.inj m n b (hlv m hm).2 hl hb e.symm))
  (λb hb=>⟨n,hl,hb⟩) hat
  (o:=.row e sz ((pre'++(q++ys)).map f)) λob' σ' m hσ=>by
   refine⟨hsz,hall _,vo,cs,by rw [List.length_map];exact hown,D.repL_ext m.ext _ _ hrep,hσ.symm,λhn=>by rw [hσ,hbo] at hn;cases hn⟩
 have hval:D0 (B9 (B9 (A1 O) n none) nm (some (.row e sz ((pre'++(q++ys)).map f)))) (G3 σ nm vo.ownBlock) Z w' v' (.sref nm sz pre'.length (q++ys).length):=by
  have hlv':live (B9 (B9 (A1 O) n none) nm (some (.row e sz ((pre'++(q++ys)).map f)))) nm:=by rw [C1];simp
  rw [hv',hbo];exact⟨⟨hlv'.used,λ_=>⟨_,cc,rfl,hcc1,hcc2,.inr ⟨bo,e,by simp [G3,hbo],.inr rfl,hshp bo hbo,λh=>by rw [h];simp⟩⟩⟩,.inr rfl⟩
 refine wpList_step λK hK => ?_;rw [if_pos (by simp [Region.wanted])];unfold Oper.wp;have hex:(execOp a.eval ⟨some d,.call { callee:=.builtin .append,args:=#[x,y],argTypes:=#[t,t] },ty,pos,af,none⟩).run P w = .ok (.value v') w':=by
  simp only [execOp,resolve,invoke,builtin,Sem.run_bind,Sem.run_pure,Result.andThen_ok,List.map_toArray,List.map_cons,List.map_nil,hr]
 rw [hex,Oper.upon_value];have e2:A1 ((nm,some (Ob.row e sz ((pre'++(q++ys)).map f))) :: (n,none) :: O)=B9 (B9 (A1 O) n none) nm (some (.row e sz ((pre'++(q++ys)).map f))):=by
  rw [<- Cr { wo:=[(nm,some (Ob.row e sz ((pre'++(q++ys)).map f))),(n,none)] } rfl,<- Ko];rfl
 have e3:A1 ((d,V.sref nm sz pre'.length (q++ys).length) :: E)=upd (A1 E) d (.sref nm sz pre'.length (q++ys).length):=by
  rw [<- O8 { wt:=[(d,V.sref nm sz pre'.length (q++ys).length)] } rfl,<- Kn];rfl
 exact hK _ _ (k pre' _ w' _ Z (by rw [e2,e3];exact s2.put hN hval))
end
end Go.Vc
namespace Go.Vc
open Go Go.Lib
section
variable {P:Program} {B:D5} {ops:Array Oper} {d:Nat} {x y i:Operand} {ty xt yt:TypeId} {pos:String} {af:Array Edge} {nt nt' nl nh:List (Nat×V)}
theorem OpJ.growNZ {t tn e sz bytes nm2:Nat} {k:Int} {z:D} {es':List D} (hB:B.ok) (hu:P.underlying t=some (.slice e)) (hun:P.underlying tn=some (.int .i64)) (he:TyE P e sz bytes) (hz:TyZ P e (.d z)) (hzs:z.sz=sz) (hnm2:1000<=nm2)
  (hk:0<k) (hlim:k.toNat<=4294967296) (hb:k.toNat*bytes<=140737488355328) {len:Nat} (hlen:len=k.toNat) (hes:es'=List.replicate k.toNat z) (hN:d<B.N)
  (hx:Opd x .nils nt) (hy:Opd y (.d (.int .i64 k)) nt') :
  OpJ P B ops ⟨some d,.call { callee:=.builtin .append,args:=#[x,y],argTypes:=#[t,tn] },ty,pos,af,none⟩ { nt:=nt++nt',nf:=[nm2],wt:=[(d,.sref nm2 sz 0 len)],wo:=[(nm2,some (.row e sz es'))] } :=
 OpJ.run rfl rfl hN rfl λenv ob a w σ Z sm hne=>by
  obtain⟨g1,g2⟩:=B4 hne.1;have hfr:ob nm2=none:=hne.2.2 nm2 (by simp);have hxv:=T9 (hx B env ob a w σ Z sm g1);have hyv:=E6 (hy B env ob a w σ Z sm g2);obtain⟨ti,zv,hinf,hz',hs,hby,hzs'⟩:=he.get;have hold:(Builtin.firstCells ti.size 0 (.slice none 0 0)).run P w.drew = .ok ([]:List Value).toArray w.drew:=run_firstCells_none _ _ _ _ _;have hkn:((k.toNat:Nat):Int)=k:=Int.toNat_of_nonneg (by omega);have hfit:Builtin.nextslicecap (0+k.toNat) 0*ti.bytes<=281474976710656:=by rw [hby];exact growslice_fits (by omega) (by rw [Nat.zero_add];exact hb)
  have hkb:k.toNat*ti.bytes<=281474976710656:=by rw [hby];omega
  have hrun:=Lib.run_append_grow_zeros w t tn ty e ti zv .i64 .i64 hu hun hinf hz' none 0 0 [] hold k.toNat (by omega) (by rw [hs];exact he.pos) (by omega) (by omega) hkb hfit;rw [hkn,Nat.zero_add] at hrun;have hzc:zv.cells.toList=z.enc:=by
   have h3:=hz.run w;simp only [zeroValue,typeInfo,Sem.run_bind] at h3;have h4:=hz.cells;simp [hinf,hz'] at h3;rw [h3];exact h4
  have hzl:z.enc.length=sz:=by
   have:=D.rep_len (Z:=Z) (w:=w) z _ (D.rep_enc z hz.plain);rw [this,hzs]
  have hcells:zv.cells=z.enc.toArray:=by rw [<- hzc]
  have hpos:=he.pos;have hzero:∀ n,(Builtin.zeroCells zv.cells n).toList=(List.replicate n z.enc).flatten:=λn=>by
   have:=I6 z.enc (by omega) n;rw [<- this,hcells];simp [Builtin.zeroCells]
  have hfl:∀ n,((List.replicate n z.enc).flatten).length=n*sz:=λn=>by
   have:=D.repL_len _ _ (H4 (Z:=Z) (w:=w) hz.plain n);rw [D.szL_all (sz:=sz) _ (λq hq=>by rw [List.eq_of_mem_replicate hq,hzs]),List.length_replicate] at this;exact this
  have hgc:=grownCap_ge w k.toNat 0 e;have hgm:=grownCap_le_maxLen w k.toNat 0 e (by simp only [maxLen];omega);have hel:es'.length=k.toNat:=by rw [hes,List.length_replicate]
  have hL:D.repL Z w es' (List.replicate k.toNat z.enc).flatten:=by
   rw [hes];exact H4 hz.plain _
  have hcl:((List.replicate k.toNat z.enc).flatten).length=es'.length*sz:=by rw [hfl,hel]
  let C:Array Value:=([]:List Value).toArray++Builtin.zeroCells zv.cells k.toNat++Builtin.zeroCells zv.cells (grownCap w k.toNat 0 e-k.toNat)
  have hC:C.toList=(List.replicate k.toNat z.enc).flatten++(List.replicate (grownCap w k.toNat 0 e-k.toNat) z.enc).flatten:=by
   simp only [C,Array.toList_append,hzero,List.nil_append]
  have hown:(w.drew.alloc (.cells C e)).ownsRow 0 e sz (.slice (some ⟨w.heap.size,0,none⟩) k.toNat (grownCap w k.toNat 0 e)) es'.length (List.replicate k.toNat z.enc).flatten:=by
   refine⟨hcl,.inr ⟨w.heap.size,_,C,by rw [hel],Nat.zero_le _,heap_alloc_new w.drew _,by rw [hel];exact hgc,hgm,?_,?_⟩⟩
   ·rw [<- Array.length_toList,hC,List.length_append,hcl,hfl,hel,<- Nat.add_mul];congr 1;omega
   ·rw [hC,<- hcl,List.take_left'];rfl
  have s2:=sm.drew.newObj hB hfr hnm2 (o:=.row e sz es') (c:=.cells C e) λob' σ' m hσ' =>
   ⟨he.pos,λq hq=>by
    rw [hes] at hq;rw [List.eq_of_mem_replicate hq,hzs],_,_,hown,D.repL_ext m.ext _ _ (D.repL_ext (Z:=Z) (Z':=Z) (w:=w) (w':=w.drew) ⟨λ_ h=>h,λ_ _=>rfl⟩ _ _ hL),by rw [hσ'];rfl,λhn=>by rw [hσ'] at hn;cases hn⟩
  rw [F1 _ rfl];refine⟨.slice (some ⟨w.heap.size,0,none⟩) k.toNat (grownCap w k.toNat 0 e),w.drew.alloc (.cells C e),G3 σ nm2 (some w.heap.size),Z,?_,s2,?_⟩
  ·simp only [execOp,resolve,invoke,builtin,Sem.run_bind,Sem.run_pure,Result.andThen_ok,List.map_toArray,List.map_cons,List.map_nil,hxv,hyv,hrun];rfl
  ·have:=J6 (ob:=B9 ob nm2 (some (.row e sz es'))) (σ:=G3 σ nm2 (some w.heap.size)) (Z:=Z) (nm:=nm2) (by rw [C1];simp) hown (by simp [G3,Value.ownBlock]);rw [hlen];simpa [hel] using this
theorem Gi {ob:Obs} {σ:Nat->Option Nat} {Z:Nat->Prop} {w:World} {v u:Value} (h:D0 ob σ Z w v (.cst u)):v=u:=by
 have:[v]=[u]∧u.oneCell'=true:=And.left h;simpa using this.1
theorem OpJ.cmpK {neg r:Bool} {no:List (Nat×Ob)} {va vb:V} (hN:d<B.N) (hx:Opd x va nt) (hy:Opd y vb nt')
  (h:∀ (env:Env) (ob:Obs) (a:Act) (w:World) (σ:Nat->Option Nat) (Z:Nat->Prop),Sim B env ob a w σ Z->(∀ p∈no,ob p.1=some (some p.2))->D0 ob σ Z w (a.eval x) va->D0 ob σ Z w (a.eval y) vb ->
   (eqGuard (if neg then .neq else .eql) xt x y (a.eval x) (a.eval y)).run P w = .ok () w∧(Op.equal xt (a.eval x) (a.eval y)).run P w = .ok r w∧(∀ k n,a.eval x ≠ .int k n)∧(∀ k n,a.eval x ≠ .float k n)∧(∀ k n m,a.eval x ≠ .complex k n m)∧(∀ s,a.eval x ≠ .string s)) :
  OpJ P B ops ⟨some d,.binOp (if neg then .neq else .eql) xt x y yt,ty,pos,af,none⟩ { nt:=nt++nt',no,wt:=[(d,.d (.bool (if neg then !r else r)))] } :=
 OpJ.run rfl rfl hN rfl λenv ob a w σ Z sm hne=>by
  obtain⟨h1,h2⟩:=B4 hne.1;obtain⟨g,e,n1,n2,n3,n4⟩:=h env ob a w σ Z sm hne.2.1 (hx B env ob a w σ Z sm h1) (hy B env ob a w σ Z sm h2);refine⟨.bool (if neg then !r else r),w,σ,Z,?_,by rw [C9 _ rfl];exact sm,H3 _⟩;simp only [execOp,Sem.run_bind];generalize a.eval x=u at g e n1 n2 n3 n4 ⊢;generalize a.eval y=v at g e ⊢;cases neg with
  | true =>
   simp only [if_true] at g ⊢;rw [g];simp only [Result.andThen_ok];cases u<;>first
    | exact absurd rfl (n1 _ _)
    | exact absurd rfl (n2 _ _)
    | exact absurd rfl (n3 _ _ _)
    | exact absurd rfl (n4 _)
    | simp [binOp,e]
  | false =>
   simp only [Bool.false_eq_true,if_false] at g ⊢;rw [g];simp only [Result.andThen_ok];cases u<;>first
    | exact absurd rfl (n1 _ _)
    | exact absurd rfl (n2 _ _)
    | exact absurd rfl (n3 _ _ _)
    | exact absurd rfl (n4 _)
    | simp [binOp,e]
theorem OpJ.arrP {t e n:Nat} {sz:Nat} {es:List D} (hu:P.underlying t=some (.array n e)) (h0:0<n) (hn:n<=es.length) (hN:d<B.N) (hx:Opd x (.d (.list sz es)) nt) :
  OpJ P B ops ⟨some d,.sliceToArrayPointer t x,ty,pos,af,none⟩ { nt,wt:=[(d,.dptr (.arr n sz (es.take n)))] } :=
 OpJ.pure rfl rfl hN λenv ob a w σ Z sm hne=>by
  obtain⟨ad,c,hv,hc1,hc2,hd⟩:=U0 (hx B env ob a w σ Z sm hne);rcases hd with hd | ⟨b,o,ha,hz,hs,hre⟩
  ·subst hd;simp at hn;omega
  ·subst ha;have hre2:=D.repE_take es b o n hre;obtain⟨cs,g1,g2⟩:=D.repL_of_repE (es.take n) b o hre2 (λq hq=>hs q (List.mem_of_mem_take hq));refine⟨.pointer (some ⟨b,o,none⟩),?_,Fv hz (xs:=cs) g2 ⟨by rw [List.length_take,Nat.min_eq_left hn],λq hq=>hs q (List.mem_of_mem_take hq),g1⟩⟩;have:¬ es.length<n:=by omega
   simp only [execOp,hv,Sem.run_bind];simp [Instr.arrayAt,run_underlying hu,this]
end
section
variable {A:Alg}
def A0n (P:Program) (S:St A) (d:Nat) (t tn:TypeId) (x y:Operand):Option (Stp A) :=
 match P.underlying t,P.underlying tn,S.op x,S.anyI y with
 | some (.slice e),some (.int .i64),some .nils,some ⟨.i64,a⟩=>match V3 P 12 e with
  | some c=>bif Bl P e c.sz (bytesOf P e)&&Nat.ble (bytesOf P e) 32768&&Nat.ble 1000 S.nx&&c.dat false&&zB P e (.d (c.enc c.zero)) then
    some (.chk (A.and (A.cmp .lss .i64 (A.ki .i64 0) a) (A.fitI .i64 a)) [⟨.list c,A.repL c .i64 a (A.zero c)⟩] { nt:=rdk x++rdk y,nf:=[S.nx],wt:=[(d,.sref S.nx c S.nl)],wo:=[(S.nx,some (.row e c S.nl))] })
   else none
  | none=>none
 | _,_,_,_=>none
def Ei:Operand->Bool
 | .const _=>true
 | _=>false
def Ja (P:Program) (xt:TypeId):Bool:=match P.underlying xt with | some (.pointer _)=>true | _=>false
def A0o (P:Program) (xt:TypeId):Bool:=match P.underlying xt with | some (.interface _)=>true | _=>false
def Tk (P:Program) (xt:TypeId):Bool:=match P.underlying xt with
 | some (.pointer e)=>(match P.info? e with | some i => !Nat.beq i.size 0 | none=>false)
 | _=>false
def B73:TV->Option Nat
 | .ptr n _ _=>some n
 | .eptr n _ _ _ _ _=>some n
 | .aptr n _ _ _ _ _=>some n
 | _=>none
def A9s (P:Program) (xt:TypeId) (cy:Bool) (tx ty:TV):Option (Bool×Option Nat):=match ty with
 | .cst t=>match tx with
  | .cst t'=>bif Nat.beq t' t&&(Nat.beq t 0&&Ja P xt || Nat.beq t 1&&cy&&A0o P xt) then some (true,none) else none
  | tx=>bif Nat.beq t 0&&Ja P xt then (B73 tx).map λn=>(false,some n) else none
 | .ptr n' o' p'=>match tx with
  | .ptr n o p=>bif Nat.beq n n'&&Nat.beq o o' && @BEq.beq (List Nat) _ p p'&&Tk P xt then some (true,some n) else none
  | _=>none
 | _=>none
def A0p (P:Program) (S:St A) (d:Nat) (op:BinOp) (xt:TypeId) (x y:Operand):Option (Stp A) :=
 match S.op x,S.op y with
 | some tx,some ty=>match A9s P xt (Ei y) tx ty,op with
  | some (r,none),.eql=>some (.pure [] { nt:=rdk x++rdk y,wt:=[(d,.kb r)] })
  | some (r,none),.neq=>some (.pure [] { nt:=rdk x++rdk y,wt:=[(d,.kb (!r))] })
  | some (r,some n),.eql=>match A1 S.O n with
   | some (some _)=>some (.pure [] { nt:=rdk x++rdk y,no:=[n],wt:=[(d,.kb r)] })
   | _=>none
  | some (r,some n),.neq=>match A1 S.O n with
   | some (some _)=>some (.pure [] { nt:=rdk x++rdk y,no:=[n],wt:=[(d,.kb (!r))] })
   | _=>none
  | _,_=>none
 | _,_=>none
def A0q (P:Program) (S:St A) (d:Nat) (op:BinOp) (xt:TypeId) (x y:Operand):Option (Stp A) :=
 match P.underlying xt,S.op x,S.op y,op with
 | some (.slice _),some (.d (.list c) j),some .nils,.eql=>some (.pure [⟨.bool,A.cmp .lss .i64 (A.ki .i64 0) (A.len c (S.lv (.list c) j))⟩] { nt:=rdk x++rdk y,wt:=[(d,.alt S.nl (.kb false) (.cst 4))] })
 | some (.slice _),some (.d (.list c) j),some .nils,.neq=>some (.pure [⟨.bool,A.cmp .lss .i64 (A.ki .i64 0) (A.len c (S.lv (.list c) j))⟩] { nt:=rdk x++rdk y,wt:=[(d,.alt S.nl (.kb true) (.cst 4))] })
 | _,_,_,_=>none
def A0r (P:Program) (S:St A) (d:Nat) (t:TypeId) (x y:Operand):Option (Stp A) :=
 match P.underlying t,S.op x,S.anyI y with
 | some (.array m e),some (.d (.arr m' c) j),some ⟨k,a⟩=>bif tyB P e c.sz c.agg&&c.dat false&&Nat.beq m m' then
   some (.bind c (A.aidx m' c k (S.lv (.arr m' c) j) a) (λq=>[⟨c,q⟩]) { nt:=rdk x++rdk y,wt:=[(d,.d c S.nl)] })
  else none
 | _,_,_=>none
def A0s (P:Program) (S:St A) (d:Nat) (t:TypeId) (x:Operand):Option (Stp A) :=
 match P.underlying t,S.op x with
 | some (.array m _),some (.d (.list c) j)=>bif Nat.blt 0 m&&c.dat false then
   some (.chk (A.leL c .i64 (A.ki .i64 (m:Nat)) (S.lv (.list c) j)) [⟨.arr m c,A.toA m c (A.cutT c .i64 (S.lv (.list c) j) (A.ki .i64 (m:Nat)))⟩] { nt:=rdk x,wt:=[(d,.dptr (.arr m c) S.nl)] })
  else none
 | _,_=>none
end
section
variable {P:Program} {B:D5} {ops:Array Oper} {S:St typ} {d:Nat} {x y:Operand} {ty t xt yt:TypeId} {pos:String} {af:Array Edge}
variable {r:Bool} {nt nt':EL} {es:List D} {s:Stp typ} {tx ty':TV}
theorem A4h [Hid] {tn:TypeId} (hB:B.ok) (hN:d<B.N) (hS:S.ok) (hf:A1 S.O S.nx=none) (h:A0n P S d t tn x y=some s):s.Ok P B ops ⟨some d,.call { callee:=.builtin .append,args:=#[x,y],argTypes:=#[t,tn] },ty,pos,af,none⟩ S:=by
 unfold A0n at h;split at h
 ·rename_i e a hu hun hx hy;split at h
  ·rename_i c hc;cases hb:Bl P e c.sz (bytesOf P e)&&Nat.ble (bytesOf P e) 32768&&Nat.ble 1000 S.nx&&c.dat false&&zB P e (.d (c.enc c.zero)) with
   | false=>rw [hb] at h;cases h
   | true =>
    rw [hb,cond_true] at h;simp only [Bool.and_eq_true] at hb;cases h;intro hq;obtain⟨h1,h2⟩:=H8 hq;have h1:(0:Int)<a:=of_decide_eq_true (show A0b .lss 0 a=true from h1);have h2:V2 a=true:=h2;simp only [V2,Bool.and_eq_true,decide_eq_true_eq] at h2;obtain⟨tx,e1,e2⟩:=E7 hy;have hy2:=(B6 e1).1;rw [e2] at hy2;have hl:a.toNat<=LIM:=by have:=h2.2;omega
    refine⟨_,OpJ.growNZ hB hu hun (W4 hb.1.1.1.1) (Dc hb.2) (Ty.D7 hb.1.2 _) (Nat.le_of_ble_eq_true hb.1.1.2) h1 hl ?_ (len:=List.length (List.replicate (Int.toNat a) c.zero)) List.length_replicate (es':=List.map c.enc (List.replicate (Int.toNat a) c.zero)) (by rw [List.map_replicate]) hN (B6 hx).1 hy2,E4 (B6 hx).2 (e2 ▸ (B6 e1).2),rfl,rF1 hf,?_,?_,by rw [D6,C5,C5],rfl,rfl⟩
    ·exact Y9 (decide_eq_true hl) hb.1.1.1.2
    ·simp only [eOf,List.map,T2]
    ·simp only [oOf,List.map,Option.map,P0]
  ·cases h
 ·cases h
theorem B26 (d:Nat) (w:World) {e:TypeId} (hu:P.underlying xt=some (.pointer e)) (ad:Addr):(Op.equalIn (d+1) xt (.pointer (some ad)) (.pointer none)).run P w = .ok false w:=by
 simp [Op.equalIn,run_underlying hu]
theorem B27 (d:Nat) (w:World) {e:TypeId} (hu:P.underlying xt=some (.pointer e)):(Op.equalIn (d+1) xt (.pointer none) (.pointer none)).run P w = .ok true w:=by
 simp [Op.equalIn,run_underlying hu]
theorem B28 (d:Nat) (w:World) {ms} (hu:P.underlying xt=some (.interface ms)):(Op.equalIn (d+1) xt .nilIface .nilIface).run P w = .ok true w:=by
 simp [Op.equalIn,run_underlying hu]
theorem B29 (d:Nat) (w:World) {e:TypeId} {i:TypeInfo} (hu:P.underlying xt=some (.pointer e)) (hi:P.info? e=some i) (hz:i.size≠0) (ad:Addr):(Op.equalIn (d+1) xt (.pointer (some ad)) (.pointer (some ad))).run P w = .ok true w:=by
 simp [Op.equalIn,run_underlying hu,sizeOf,typeInfo,hi,hz,sameAddr]
theorem okK [Hid] {neg:Bool} {n:Nat} {b:TOb} (hN:d<B.N) (hx:S.op x=some tx) (hy:S.op y=some ty') (hn:A1 S.O n=some (some b)) (h:∀ (env:Env) (ob:Obs) (a:Act) (w:World) (σ:Nat->Option Nat) (Z:Nat->Prop),Sim B env ob a w σ Z->live ob n->D0 ob σ Z w (a.eval x) (tx.v S.lv)->D0 ob σ Z w (a.eval y) (ty'.v S.lv) ->
   (eqGuard (if neg then .neq else .eql) xt x y (a.eval x) (a.eval y)).run P w = .ok () w∧(Op.equal xt (a.eval x) (a.eval y)).run P w = .ok r w∧(∀ k n,a.eval x ≠ .int k n)∧(∀ k n,a.eval x ≠ .float k n)∧(∀ k n m,a.eval x ≠ .complex k n m)∧(∀ s,a.eval x ≠ .string s)) :
  OkO P B ops ⟨some d,.binOp (if neg then .neq else .eql) xt x y yt,ty,pos,af,none⟩ S [] { nt:=rdk x++rdk y,no:=[n],wt:=[(d,.kb (if neg then !r else r))] } :=
 Wy (r:=.kb (if neg then !r else r)) hx hy hn rfl λnt nt' hx hy=>OpJ.cmpK hN hx hy λenv ob a w σ Z sm ho=>h env ob a w σ Z sm ⟨_,ho (n,b.o S.lv) (by simp)⟩
theorem C2p [Hid] {neg:Bool} (hN:d<B.N) (hx:S.op x=some tx) (hy:S.op y=some ty') (h:∀ (env:Env) (ob:Obs) (a:Act) (w:World) (σ:Nat->Option Nat) (Z:Nat->Prop),Sim B env ob a w σ Z->D0 ob σ Z w (a.eval x) (tx.v S.lv)->D0 ob σ Z w (a.eval y) (ty'.v S.lv) ->
   (eqGuard (if neg then .neq else .eql) xt x y (a.eval x) (a.eval y)).run P w = .ok () w∧(Op.equal xt (a.eval x) (a.eval y)).run P w = .ok r w∧(∀ k n,a.eval x ≠ .int k n)∧(∀ k n,a.eval x ≠ .float k n)∧(∀ k n m,a.eval x ≠ .complex k n m)∧(∀ s,a.eval x ≠ .string s)) :
  OkO P B ops ⟨some d,.binOp (if neg then .neq else .eql) xt x y yt,ty,pos,af,none⟩ S [] { nt:=rdk x++rdk y,wt:=[(d,.kb (if neg then !r else r))] } :=
 ok2 (r:=.kb (if neg then !r else r)) hx hy rfl λnt nt' hx hy=>OpJ.cmpK (no:=[]) hN hx hy λenv ob a w σ Z sm _=>h env ob a w σ Z sm
def C06 (P:Program) (xt:TypeId) (x y:Operand) (r:Bool) (u v:Value) (w:World):Prop:=(∀ neg:Bool,(eqGuard (if neg then .neq else .eql) xt x y u v).run P w = .ok () w)∧(Op.equal xt u v).run P w = .ok r w∧(∀ k n,u ≠ .int k n)∧(∀ k n,u ≠ .float k n)∧(∀ k n m,u ≠ .complex k n m)∧(∀ s,u ≠ .string s)
theorem A21 [Hid] {tx ty':TV} {r:Bool} {n:Option Nat} (h:A9s P xt (Ei y) tx ty'=some (r,n)) {ob:Obs} {σ:Nat->Option Nat} {Z:Nat->Prop} {w:World} {u v:Value} (hl:∀ m,n=some m->live ob m) (hx:D0 ob σ Z w u (tx.v S.lv)) (hy:D0 ob σ Z w v (ty'.v S.lv)):C06 P xt x y r u v w:=by
 unfold A9s at h;split at h
 ·rename_i t;split at h
  ·rename_i t';cases hb:Nat.beq t' t&&(Nat.beq t 0&&Ja P xt || Nat.beq t 1&&Ei y&&A0o P xt) with
   | false=>rw [hb] at h;cases h
   | true =>
    rw [hb] at h;cases h;simp only [Bool.and_eq_true,Bool.or_eq_true] at hb;obtain⟨b1,b2⟩:=hb;have b1:=Nat.eq_of_beq_eq_true b1;subst b1;rcases b2 with ⟨b2,b3⟩ | ⟨⟨b2,b3⟩,b4⟩
    ·have b2:=Nat.eq_of_beq_eq_true b2;subst b2;have e1:=Gi (u:=Bk 0) hx;have e2:=Gi (u:=Bk 0) hy;subst e1 e2;unfold Ja at b3;split at b3
     ·rename_i e hu;exact⟨λneg=>by cases neg<;>simp [eqGuard,Bk],B27 9999 w hu,by simp [Bk],by simp [Bk],by simp [Bk],by simp [Bk]⟩
     ·cases b3
    ·have b2:=Nat.eq_of_beq_eq_true b2;subst b2;have e1:=Gi (u:=Bk 1) hx;have e2:=Gi (u:=Bk 1) hy;subst e1 e2;unfold A0o at b4;split at b4
     ·rename_i e hu;refine⟨λneg => ?_,B28 9999 w hu,by simp [Bk],by simp [Bk],by simp [Bk],by simp [Bk]⟩;cases y<;>simp [Ei] at b3;cases neg<;>simp [eqGuard,Bk]
     ·cases b4
  ·cases hb:Nat.beq t 0&&Ja P xt with
   | false=>rw [hb] at h;cases h
   | true =>
    rw [hb,cond_true] at h;rw [Bool.and_eq_true] at hb;have b1:=Nat.eq_of_beq_eq_true hb.1;subst b1;have e2:=Gi (u:=Bk 0) hy;cases hp:B73 tx with
    | none=>rw [hp] at h;cases h
    | some m =>
     rw [hp] at h;cases h;have:∃ o p,tx.v S.lv = .ptr m o p:=by
      cases tx<;>simp only [B73,reduceCtorEq,Option.some.injEq] at hp
      all_goals (subst hp;exact⟨_,_,rfl⟩)
     obtain⟨o,p,he⟩:=this;rw [he] at hx;obtain⟨bb,_,e1⟩:=L5 hx (hl m rfl);subst e1 e2;have b3:=hb.2;unfold Ja at b3;split at b3
     ·rename_i e hu;exact⟨λneg=>by cases neg<;>simp [eqGuard],B26 9999 w hu _,by simp,by simp,by simp,by simp⟩
     ·cases b3
 ·rename_i n' o' p';split at h
  ·rename_i n0 o p;cases hb:Nat.beq n0 n'&&Nat.beq o o' && @BEq.beq (List Nat) _ p p'&&Tk P xt with
   | false=>rw [hb] at h;cases h
   | true =>
    rw [hb] at h;cases h;simp only [Bool.and_eq_true] at hb;obtain⟨⟨⟨b1,b2⟩,b3⟩,b4⟩:=hb;have b1:=Nat.eq_of_beq_eq_true b1;subst b1;have b2:=Nat.eq_of_beq_eq_true b2;subst b2;obtain⟨c1,q1,e1⟩:=L5 hx (hl n0 rfl);obtain⟨c2,q2,e2⟩:=L5 hy (hl n0 rfl);rw [q1] at q2;cases q2;subst e1 e2;unfold Tk at b4;split at b4
    ·rename_i e hu;split at b4
     ·rename_i i hi;have hz:i.size≠0:=λh=>by rw [h] at b4;simp at b4
      exact⟨λneg=>by cases neg<;>simp [eqGuard],B29 9999 w hu hi hz _,by simp,by simp,by simp,by simp⟩
     ·cases b4
    ·cases b4
  ·cases h
 ·cases h
theorem A4i [Hid] {op:BinOp} (hN:d<B.N) (h:A0p P S d op xt x y=some s):s.Ok P B ops ⟨some d,.binOp op xt x y yt,ty,pos,af,none⟩ S:=by
 unfold A0p at h;split at h
 ·rename_i tx ty' hx hy;have k0:∀ (neg r:Bool),A9s P xt (Ei y) tx ty'=some (r,none)->OkO P B ops ⟨some d,.binOp (if neg then .neq else .eql) xt x y yt,ty,pos,af,none⟩ S [] { nt:=rdk x++rdk y,wt:=[(d,.kb (if neg then !r else r))] }:=λneg r hc =>
   C2p hN hx hy λenv ob a w σ Z sm hx hy=>by
    obtain⟨g,e⟩:=A21 (x:=x) (ob:=ob) hc (λ_ h=>by cases h) hx hy;exact⟨g neg,e⟩
  have k1:∀ (neg r:Bool) (n:Nat) (b:TOb),A9s P xt (Ei y) tx ty'=some (r,some n)->A1 S.O n=some (some b)->OkO P B ops ⟨some d,.binOp (if neg then .neq else .eql) xt x y yt,ty,pos,af,none⟩ S [] { nt:=rdk x++rdk y,no:=[n],wt:=[(d,.kb (if neg then !r else r))] }:=λneg r n b hc hn =>
   okK hN hx hy hn λenv ob a w σ Z sm hl hx hy=>by
    obtain⟨g,e⟩:=A21 (x:=x) (ob:=ob) hc (λ_ h=>by cases h;exact hl) hx hy;exact⟨g neg,e⟩
  split at h
  ·rename_i r hc;cases h;exact k0 false r hc
  ·rename_i r hc;cases h;exact k0 true r hc
  ·rename_i r n hc;split at h
   ·rename_i b hn;cases h;exact k1 false r n b hc hn
   ·cases h
  ·rename_i r n hc;split at h
   ·rename_i b hn;cases h;exact k1 true r n b hc hn
   ·cases h
  ·cases h
 ·cases h
theorem A22 (d:Nat) (w:World) {e:TypeId} (hu:P.underlying xt=some (.slice e)) (ad:Option Addr) (l c:Nat):(Op.equalIn (d+1) xt (.slice ad l c) (.slice none 0 0)).run P w = .ok ad.isNone w:=by
 cases ad<;>simp [Op.equalIn,run_underlying hu]
theorem OpJ.nilU {e:TypeId} {sz:Nat} (neg:Bool) (hu:P.underlying xt=some (.slice e)) (hN:d<B.N) (hx:Opd x (.d (.list sz es)) nt) (hy:Opd y .nils nt') :
  OpJ P B ops ⟨some d,.binOp (if neg then .neq else .eql) xt x y yt,ty,pos,af,none⟩ { nt:=nt++nt',wt:=[(d,.sat (Ox 0))] } :=
 OpJ.pure rfl rfl hN λenv ob a w σ Z sm hne=>by
  obtain⟨h1,h2⟩:=B4 hne;obtain⟨ad,c,hv,_⟩:=U0 (hx B env ob a w σ Z sm h1);have hyv:=T9 (hy B env ob a w σ Z sm h2);have he:(Op.equal xt (.slice ad es.length c) (.slice none 0 0)).run P w = .ok ad.isNone w:=A22 9999 w hu ad _ _;have mk:∀ b:Bool,D0 ob σ Z w (.bool b) (.sat (Ox 0)):=λb=>⟨⟨_,rfl,⟨b,rfl⟩,rfl⟩,.inr rfl⟩;cases neg with
  | true=>exact⟨.bool (!ad.isNone),by simp [execOp,hv,hyv,binOp,eqGuard,he],mk _⟩
  | false=>exact⟨.bool ad.isNone,by simp [execOp,hv,hyv,binOp,eqGuard,he],mk _⟩
theorem OpJ.nilK {e:TypeId} {sz:Nat} (neg:Bool) (hu:P.underlying xt=some (.slice e)) (hne0:es≠[]) (hN:d<B.N) (hx:Opd x (.d (.list sz es)) nt) (hy:Opd y .nils nt') :
  OpJ P B ops ⟨some d,.binOp (if neg then .neq else .eql) xt x y yt,ty,pos,af,none⟩ { nt:=nt++nt',wt:=[(d,.d (.bool neg))] } :=
 OpJ.pure rfl rfl hN λenv ob a w σ Z sm hne=>by
  obtain⟨h1,h2⟩:=B4 hne;obtain⟨ad,c,hv,_,_,h3⟩:=U0 (hx B env ob a w σ Z sm h1);have hyv:=T9 (hy B env ob a w σ Z sm h2);obtain⟨b,o,rfl,_⟩:=h3.resolve_left hne0;have he:(Op.equal xt (.slice (some ⟨b,o,none⟩) es.length c) (.slice none 0 0)).run P w = .ok false w:=A22 9999 w hu _ _ _;cases neg with
  | true=>exact⟨.bool true,by simp [execOp,hv,hyv,binOp,eqGuard,he],H3 _⟩
  | false=>exact⟨.bool false,by simp [execOp,hv,hyv,binOp,eqGuard,he],H3 _⟩
theorem A9t {c:Ty} {j:Nat} (neg:Bool) {e:TypeId} (hu:P.underlying xt=some (.slice e)) (hN:d<B.N) (hx:Opd x (.d ((Ty.list c).enc (S.lv (.list c) j))) nt) (hy:Opd y .nils nt') :
  OpJ P B ops ⟨some d,.binOp (if neg then .neq else .eql) xt x y yt,ty,pos,af,none⟩ { nt:=nt++nt',wt:=[(d,@cond V (decide ((0:Int)<((List.length (S.lv (.list c) j):Nat):Int))) (.d (.bool neg)) (.sat (Ox 0)))] }:=by
 cases hd:decide ((0:Int)<((List.length (S.lv (.list c) j):Nat):Int)) with
 | true =>
  have:=of_decide_eq_true hd;refine OpJ.nilK neg hu (λh => ?_) hN hx hy;have h2:=congrArg List.length h;rw [List.length_map] at h2;simp only [List.length_nil] at h2;omega
 | false=>exact OpJ.nilU neg hu hN hx hy
theorem A4j [Hid] {op:BinOp} (hN:d<B.N) (h:A0q P S d op xt x y=some s):s.Ok P B ops ⟨some d,.binOp op xt x y yt,ty,pos,af,none⟩ S:=by
 unfold A0q at h;split at h
 ·rename_i e c j hu hx hy;cases h;refine ok2 (v:=@cond V (decide ((0:Int)<((List.length (S.lv (.list c) j):Nat):Int))) (.d (.bool false)) (.sat (Ox 0))) hx hy ?_ λnt nt' hx hy=>A9t false hu hN hx hy;show @cond V (S.push [⟨.bool,decide ((0:Int)<((List.length (S.lv (.list c) j):Nat):Int))⟩] .bool S.nl) _ _=_;rw [F6];rfl
 ·rename_i e c j hu hx hy;cases h;refine ok2 (v:=@cond V (decide ((0:Int)<((List.length (S.lv (.list c) j):Nat):Int))) (.d (.bool true)) (.sat (Ox 0))) hx hy ?_ λnt nt' hx hy=>A9t true hu hN hx hy;show @cond V (S.push [⟨.bool,decide ((0:Int)<((List.length (S.lv (.list c) j):Nat):Int))⟩] .bool S.nl) _ _=_;rw [F6];rfl
 ·cases h
theorem A4k [Hid] (hN:d<B.N) (h:A0r P S d t x y=some s):s.Ok P B ops ⟨some d,.index t x y,ty,pos,af,none⟩ S:=by
 unfold A0r at h;split at h
 ·rename_i m e m' c j k a hu hx hy;cases hb:tyB P e c.sz c.agg&&c.dat false&&Nat.beq m m' with
  | false=>rw [hb] at h;cases h
  | true =>
   rw [hb,cond_true] at h;simp only [Bool.and_eq_true] at hb;have h3:=Nat.eq_of_beq_eq_true hb.2;subst h3;cases h;intro q hq;obtain⟨tx,e1,e2⟩:=E7 hy;have hq:=P8 hq;refine ok2 hx e1 E5 λnt nt' hx hy => ?_;rw [e2] at hy;exact OpJ.indexV hu (F0 hb.1.1) (es:=List.map c.enc (S.lv (.arr m c) j)) ⟨Ty.O4 hb.1.2 _,Ty.D7 hb.1.2 _⟩ hq.1 (by rw [List.getElem?_map,hq.2];rfl) hN hx hy
 ·cases h
theorem A4l [Hid] (hN:d<B.N) (h:A0s P S d t x=some s):s.Ok P B ops ⟨some d,.sliceToArrayPointer t x,ty,pos,af,none⟩ S:=by
 unfold A0s at h;split at h
 ·rename_i m e c j hu hx;cases hb:Nat.blt 0 m&&c.dat false with
  | false=>rw [hb] at h;cases h
  | true =>
   rw [hb,cond_true] at h;rw [Bool.and_eq_true] at hb;cases h;intro hq;have hq:leT (m:Int) (List.length (S.lv (.list c) j))=true:=hq;obtain⟨_,q2⟩:=U2 hq;have q2:m<=List.length (S.lv (.list c) j):=q2;refine ok1 hx (v:=.dptr ((Ty.arr m c).enc (List.take m (S.lv (.list c) j)))) ?_ λnt hx => ?_
   ·have:(S.push [⟨.arr m c,List.take m (S.lv (.list c) j)⟩]) (.arr m c) S.nl=List.take m (S.lv (.list c) j):=F6 (c:=.arr m c);show V.dptr _=_;rw [<- this];rfl
   ·have:=OpJ.arrP (P:=P) (ops:=ops) (ty:=ty) (pos:=pos) (af:=af) (es:=List.map c.enc (S.lv (.list c) j)) hu (TV.C2 hb.1) (by rw [List.length_map];exact q2) hN hx;rw [<- List.map_take] at this;exact this
 ·cases h
end
end Go.Vc
namespace Go.Vc
open Go Go.Lib
def A0t (P:Program) (f:FuncId) (n:String):Bool:=match P.funcs[f]? with
 | some fn=>fn.name==n&&fn.body.isNone&&fn.origin == ""
 | none=>false
theorem lk1:(Extern.allGenericRows.lookup "internal/bytealg.IndexByteString").isNone=true:=by kernel_rfl
theorem lk2:(Extern.allTypedRows.lookup "internal/bytealg.IndexByteString").isNone=true:=by kernel_rfl
theorem lk3:Extern.allRows.lookup "internal/bytealg.IndexByteString" = some Extern.BytealgIndexByte.indexByte:=by kernel_rfl
theorem lk4:(Extern.allNextRows.lookup "internal/bytealg.IndexByteString").isNone=true:=by kernel_rfl
theorem lk5:(Extern.allNextRows.lookup "").isNone=true:=by kernel_rfl
theorem lc1:(Extern.allGenericRows.lookup "internal/bytealg.CountString").isNone=true:=by kernel_rfl
theorem lc2:(Extern.allTypedRows.lookup "internal/bytealg.CountString").isNone=true:=by kernel_rfl
theorem lc3:Extern.allRows.lookup "internal/bytealg.CountString" = some Extern.BytealgCount.count:=by kernel_rfl
theorem lc4:(Extern.allNextRows.lookup "internal/bytealg.CountString").isNone=true:=by kernel_rfl
section
variable {P:Program} {B:D5} {ops:Array Oper} {d:Nat} {x y:Operand} {ty:TypeId} {pos:String} {af:Array Edge} {nt nt':List (Nat×V)}
variable {f:FuncId} {n:String}
theorem B2a {e:Array Value->Sem Value} (h:A0t P f n=true) (h1:(Extern.allGenericRows.lookup n).isNone=true) (h2:(Extern.allTypedRows.lookup n).isNone=true) (h3:Extern.allRows.lookup n=some e) (h4:(Extern.allNextRows.lookup n).isNone=true) (hn:n ≠ "runtime.NumGoroutine") (args:Array Value) (w:World):(callFunc f args).run P w=((e args).run P w).andThen λv w' => .ok (.value v) w':=by
 unfold A0t at h;split at h
 ·rename_i fn hf;simp only [Bool.and_eq_true,beq_iff_eq] at h;obtain⟨⟨h5,h6⟩,h7⟩:=h;refine run_callFunc_extern hf (by rw [h5];simpa using hn) h6 ?_ ?_ args w
  ·simp only [Extern.findNext,h5,h7,Option.isNone_iff_eq_none.1 h4,Option.isNone_iff_eq_none.1 lk5];rfl
  ·simp only [Extern.find,h5,Option.isNone_iff_eq_none.1 h1,Option.isNone_iff_eq_none.1 h2,h3];rfl
 ·cases h
theorem OpJ.ext2 {e:Array Value->Sem Value} {ts:Array TypeId} {va vb vr:V} (h:A0t P f n=true) (h1:(Extern.allGenericRows.lookup n).isNone=true) (h2:(Extern.allTypedRows.lookup n).isNone=true) (h3:Extern.allRows.lookup n=some e) (h4:(Extern.allNextRows.lookup n).isNone=true) (hn:n ≠ "runtime.NumGoroutine") (hN:d<B.N) (hx:Opd x va nt) (hy:Opd y vb nt') (hr:∀ (ob:Obs) (w:World) (σ:Nat->Option Nat) (Z:Nat->Prop) (u v:Value),D0 ob σ Z w u va->D0 ob σ Z w v vb->∃ r,(e #[u,v]).run P w = .ok r w∧D0 ob σ Z w r vr) :
  OpJ P B ops ⟨some d,.call { callee:=.value (.func f),args:=#[x,y],argTypes:=ts },ty,pos,af,none⟩ { nt:=nt++nt',wt:=[(d,vr)] } :=
 OpJ.run rfl rfl hN rfl λenv ob a w σ Z sm hne=>by
  obtain⟨g1,g2⟩:=B4 hne.1;obtain⟨r,q1,q2⟩:=hr ob w σ Z _ _ (hx B env ob a w σ Z sm g1) (hy B env ob a w σ Z sm g2);refine⟨r,w,σ,Z,?_,by rw [C9 _ rfl];exact sm,by rw [C9 _ rfl];exact q2⟩;simp only [execOp,resolve,show a.eval (.func f) = .func (.func f) #[] #[] from rfl,Deferred.ofValue,Sem.run_bind,Sem.run_pure,Result.andThen_ok,invoke,List.map_toArray,List.map_cons,List.map_nil,Array.empty_append,Array.append_empty];rw [B2a h h1 h2 h3 h4 hn,q1];rfl
theorem OpJ.fieldV {s:TypeId} {fs:Array Field} {f:Nat} {fl:Field} {n:Nat} {ag:Bool} (hs:P.underlying s=some (.struct fs)) (hf:fs[f]? = some fl) (ht:TyS P fl.type n ag) {ds:List D} {e:D} (he:ds[f]? = some e) (hoff:D.szL (ds.take f)=fl.offset) (hz:e.sz=n) (hag:e.isAgg=ag) (hN:d<B.N) (hx:Opd x (.d (.st ds)) nt) :
  OpJ P B ops ⟨some d,.field s x f,ty,pos,af,none⟩ { nt,wt:=[(d,.d e)] } :=
 OpJ.pure rfl rfl hN λenv ob a w σ Z sm hne=>by
  obtain⟨cs,hv,hr⟩:=P2 (hx B env ob a w σ Z sm hne);obtain⟨c1,c2,c3,g1,g2,g3,g4,_⟩:=I5 (Z:=Z) (w:=w) (show D.repL Z w ds cs from hr) he;have hs1:ag=false->n=1:=λh=>by rw [<- hz];exact D.sz_one (by rw [hag,h])
  have hp:=I0 ht w c1 c2 c3 (g3.trans hz) hs1 (g2.trans hoff);refine⟨D3 ag c2,?_,D0.of (F3.of_cells (x:=.d e) g4 g3 (D.rep_one e c2 g4) ag hag) rfl⟩;have hv:a.eval x = .agg cs.toArray:=hv;rw [g1] at hv;simp only [execOp,hv,Instr.field,asAgg,Sem.run_bind,Sem.run_pure,Result.andThen_ok,run_underlying hs,hf,hp]
end
section
variable {P:Program} {B:D5} {ops:Array Oper} {d:Nat} {x y:Operand} {ty:TypeId} {pos:String} {af:Array Edge} {nt nt':List (Nat×V)}
theorem Pw {ob:Obs} {σ:Nat->Option Nat} {Z:Nat->Prop} {w:World}:∀ {fs:List V} {cs:List Value},V.repS ob σ Z w fs cs->∀ u∈cs,u.oneCell'=true
 | [],cs,h,u,hu=>by cases h;cases hu
 | _ :: fs,cs,h,u,hu=>by
  obtain⟨c1,c2,rfl,_,h3,_,h5⟩:=h;rcases List.mem_append.1 hu with hu | hu
  ·exact h3 u hu
  ·exact Pw h5 u hu
theorem OpJ.fieldS {s:TypeId} {fs:Array Field} {f:Nat} {fl:Field} {n:Nat} {ag:Bool} (hs:P.underlying s=some (.struct fs)) (hf:fs[f]? = some fl) (ht:TyS P fl.type n ag) {zs:List V} {z:V} (he:zs[f]? = some z) (hoff:V.szL (zs.take f)=fl.offset) (hz:z.sz=n) (hag:z.isAgg=ag) (h1:ag=false->n=1) (hn:z.isTop=false) (hN:d<B.N) (hx:Opd x (.st zs) nt) :
  OpJ P B ops ⟨some d,.field s x f,ty,pos,af,none⟩ { nt,wt:=[(d,z)] } :=
 OpJ.pure rfl rfl hN λenv ob a w σ Z sm hne=>by
  have hr:F3 ob σ Z w (a.eval x) (.st zs):=hx B env ob a w σ Z sm hne;unfold F3 at hr;rw [if_pos (show V.isAgg (.st zs)=true from rfl)] at hr;obtain⟨cs,hv,hr⟩:=hr;obtain⟨c1,c2,c3,g1,g2,g3,g4,_⟩:=Y8 hr he;have g5:∀ u∈c2,u.oneCell'=true:=λu hu=>Pw hr u (by rw [g1];simp [hu]);have hp:=I0 ht w c1 c2 c3 (g3.trans hz) h1 (g2.trans hoff);refine⟨D3 ag c2,?_,D0.of (F3.of_cells (x:=z) g4 g3 g5 ag hag) hn⟩;have hv:a.eval x = .agg cs.toArray:=hv;rw [g1] at hv;simp only [execOp,hv,Instr.field,asAgg,Sem.run_bind,Sem.run_pure,Result.andThen_ok,run_underlying hs,hf,hp]
end
section
variable {A:Alg}
def A9u (P:Program) (S:St A) (d:Nat) (f:FuncId) (xs:List Operand):Option (Stp A):=match xs with
 | [x,y]=>match S.op x,S.anyI y with
  | some tx,some ⟨.u8,b⟩=>match S.exact .str tx with
   | some s=>bif A0t P f "internal/bytealg.IndexByteString" then some (S.leaf1 d (rdk x++rdk y) [] (.int .i64) (A.ixb s b))
    else bif A0t P f "internal/bytealg.CountString" then some (S.leaf1 d (rdk x++rdk y) [] (.int .i64) (A.cnb s b)) else none
   | none=>none
  | _,_=>none
 | _=>none
def A0u (P:Program) (S:St A) (d:Nat) (s:TypeId) (x:Operand) (f:Nat):Option (Stp A) :=
 match P.underlying s,S.op x with
 | some (.struct fs),some (.d (.st b) j)=>match fs[f]? with
  | some fl=>bif Nat.blt f b.nf&&Nat.beq (b.foff f) fl.offset&&b.dat true&&tyB P fl.type (b.fty f).sz (b.fty f).agg then
    some (.pure [⟨b.fty f,A.fld b (S.lv (.st b) j) f⟩] { nt:=rdk x,wt:=[(d,.d (b.fty f) S.nl)] })
   else none
  | none=>none
 | some (.struct fs),some (.st zs)=>match fs[f]?,zs.nth f,zs.off? f with
  | some fl,some z,some o=>match z.sz? with
   | some m=>bif Nat.beq o fl.offset&&tyB P fl.type m z.agg && !z.isL&&(z.agg || Nat.beq m 1) && !z.top then some (.pure [] { nt:=rdk x,wt:=[(d,z)] }) else none
   | none=>none
  | _,_,_=>none
 | _,_=>none
end
section
variable {P:Program} {B:D5} {ops:Array Oper} {S:St typ} {d:Nat} {x y:Operand} {ty t:TypeId} {pos:String} {af:Array Edge}
theorem A75 [Hid] {f:FuncId} {xs:List Operand} {ts:Array TypeId} {s:Stp typ} (hN:d<B.N) (h:A9u P S d f xs=some s):s.Ok P B ops ⟨some d,.call { callee:=.value (.func f),args:=xs.toArray,argTypes:=ts },ty,pos,af,none⟩ S:=by
 unfold A9u at h;split at h
 ·rename_i x y;split at h
  ·rename_i tx b hx hy;obtain⟨ty',e1,e2⟩:=E7 hy;split at h
   ·rename_i s' hs;have es:=Q8 hs;cases hb:A0t P f "internal/bytealg.IndexByteString" with
    | true =>
     rw [hb] at h;cases h;refine ok2 hx e1 E5 λnt nt' hx hy => ?_;rw [es] at hx;rw [e2] at hy;refine OpJ.ext2 hb lk1 lk2 lk3 lk4 (by decide) hN hx hy λob w σ Z u v hu hv => ?_;rw [P5 hu,E6 hv];exact⟨_,run_indexByteString _ _ _,L8 _ _⟩
    | false =>
     rw [hb,cond_false] at h;cases hb2:A0t P f "internal/bytealg.CountString" with
     | true =>
      rw [hb2] at h;cases h;refine ok2 hx e1 E5 λnt nt' hx hy => ?_;rw [es] at hx;rw [e2] at hy;refine OpJ.ext2 hb2 lc1 lc2 lc3 lc4 (by decide) hN hx hy λob w σ Z u v hu hv => ?_;rw [P5 hu,E6 hv];exact⟨_,run_countString _ _ _,L8 _ _⟩
     | false=>rw [hb2] at h;cases h
   ·cases h
  ·cases h
 ·cases h
theorem A4m [Hid] {s:TypeId} {f:Nat} {r:Stp typ} (hN:d<B.N) (h:A0u P S d s x f=some r):r.Ok P B ops ⟨some d,.field s x f,ty,pos,af,none⟩ S:=by
 unfold A0u at h;split at h
 ·rename_i fs b j hs hx;split at h
  ·rename_i fl hf;cases hb:Nat.blt f b.nf&&Nat.beq (b.foff f) fl.offset&&b.dat true&&tyB P fl.type (b.fty f).sz (b.fty f).agg with
   | false=>rw [hb] at h;cases h
   | true =>
    rw [hb,cond_true] at h;simp only [Bool.and_eq_true] at hb;obtain⟨⟨⟨b1,b2⟩,b3⟩,b4⟩:=hb;cases h;obtain⟨g1,g2,g3,_⟩:=Ty.M2 b3 (S.lv (.st b) j) f (TV.C2 b1);exact ok1 hx E5 λnt hx=>OpJ.fieldV hs hf (F0 b4) (ds:=b.encs (S.lv (.st b) j)) g1 (g2.trans (Nat.eq_of_beq_eq_true b2)) (Ty.D7 g3 _) (Ty.O4 g3 _) hN hx
  ·cases h
 ·rename_i fs zs hs hx;split at h
  ·rename_i fl z o hf hz ho;split at h
   ·rename_i m hm;cases hb:Nat.beq o fl.offset&&tyB P fl.type m z.agg && !z.isL&&(z.agg || Nat.beq m 1) && !z.top with
    | false=>rw [hb] at h;cases h
    | true =>
     rw [hb,cond_true] at h;simp only [Bool.and_eq_true,Bool.not_eq_true',Bool.or_eq_true] at hb;obtain⟨⟨⟨⟨b1,b2⟩,b3⟩,b4⟩,b5⟩:=hb;cases h;have hv:z.v (S.push [])=z.v S.lv:=rfl;refine ok1 hx hv λnt hx=>OpJ.fieldS hs hf (F0 b2) (Bt hz) ((TV.Fa ho).trans (Nat.eq_of_beq_eq_true b1)) (TV.sz_v hm b3) (TV.Et b3 (by rw [hm];simp)) (λe => ?_) (Lt b5) hN hx;rcases b4 with b4 | b4
     ·rw [b4] at e;cases e
     ·exact Nat.eq_of_beq_eq_true b4
   ·cases h
  ·cases h
 ·cases h
end
end Go.Vc
namespace Go.Vc
open Go
variable {P:Program} {B:D5}
def B74 (n:Nat) (x:D) (u v:V):Prop:=u = .ptr n 0 []∧v = .dptr x
theorem Sim.settleBox {env:Env} {ob:Obs} {a:Act} {w:World} {σ:Nat->Option Nat} {Z:Nat->Prop} (s:Sim B env ob a w σ Z) {n t:Nat} {x:D} (hn:ob n=some (some (.box t (.d x)))) :
  ∃ Z',Sim B env (B9 ob n none) a w σ Z'∧K4 ob (B9 ob n none) σ σ Z Z' w w∧∀ cs,V.rep ob σ Z w (.ptr n 0 []) cs->V.rep (B9 ob n none) σ Z' w (.dptr x) cs:=by
 have hl:live ob n:=⟨_,hn⟩;have sk:=s.kill n;have hlv:∀ m,live (B9 ob n none) m->m≠n∧live ob m:=λm hm=>by
  rw [C1] at hm
  by_cases hmn:m=n
  ·rw [if_pos hmn] at hm;simp at hm
  ·rw [if_neg hmn] at hm;exact⟨hmn,hm⟩
 obtain⟨b,cs,hσ,hw,hone,hsz,hr⟩:=s.obj n _ hn;obtain⟨hz,hbb⟩:=s.blk n b hl hσ;have hblt:=s.lt hl hσ;have mv:K4 ob (B9 ob n none) σ σ Z (λq=>Z q∨q=b) w w:=⟨⟨λ_ h => .inl h,λ_ _=>rfl⟩,λ_ h=>S4 h,λm _ h=>⟨(hlv m h).2,rfl⟩,λ_ _ _ _ _=>rfl⟩;have s1:Sim B env (B9 ob n none) a w σ (λq=>Z q∨q=b):=by
  have m:K4 (B9 ob n none) (B9 ob n none) σ σ Z (λq=>Z q∨q=b) w w:=⟨⟨λ_ h => .inl h,λ_ _=>rfl⟩,λ_ h=>h,λ_ _ h=>⟨h,rfl⟩,λ_ _ _ _ _=>rfl⟩;refine { sk with env:=?_,obj:=?_,blk:=?_,zlt:=?_,zsub:=λq h => .inl (sk.zsub q h),znew:=?_,foot:=s.foot.settle hl hσ }
  ·intro j x hj;obtain⟨u,h1,h2⟩:=sk.env j x hj;exact⟨u,h1,h2.move m⟩
  ·intro q o hq;exact Ob.rep_move m (sk.obj q o hq) rfl (λ_ _=>rfl)
  ·intro p q hp hq;obtain⟨g1,g2⟩:=sk.blk p q hp hq;refine⟨λh => ?_,g2⟩;rcases h with h | h
   ·exact g1 h
   ·subst h;exact(hlv p hp).1 (s.inj p n q (hlv p hp).2 hl hq hσ)
  ·intro q h;rcases h with h | h
   ·exact sk.zlt q h
   ·subst h;exact hblt
  ·intro q h;rcases h with h | h
   ·exact sk.znew q h
   ·subst h;exact .inr hbb
 refine⟨_,s1,mv,λds hd => ?_⟩;obtain⟨_,hd⟩:=hd;obtain⟨b',hb',he⟩:=hd hl;have:b'=b:=Option.some.inj (hb'.symm.trans hσ);subst this;have hext:Ext Z (λq=>Z q∨q=b') w w:=⟨λ_ h => .inl h,λ_ _=>rfl⟩;refine⟨b',0,cs.toList,he,.inr rfl,λj u hj => ?_,D.rep_ext hext x _ hr⟩;rw [Nat.zero_add,cell_of_row w b' j cs _ (0,0) hw];simpa using hj
theorem Mat.freezeB {E Ts:EL} {O Bs:OL} {n t:Nat} {x:D} (hn:A1 O n=some (some (.box t (.d x)))) (hT:TwT (B74 n x) E Ts) (hBs:TwB (B74 n x) ((n,none) :: O) Bs) :
  Mat B E O (Ts++E) (Bs++(n,none) :: O):=λa w σ Z s=>by
 obtain⟨Z',s1,mv,hl⟩:=s.settleBox hn;rw [<- V7] at s1 mv hl;refine⟨_,_,s.turn s1 mv ⟨?_,?_⟩ (λq o h _=>⟨?_,rfl⟩) hT hBs⟩
 ·rintro u v ⟨rfl,rfl⟩;exact⟨rfl,rfl,by simp,rfl,rfl⟩
 ·rintro u v ⟨rfl,rfl⟩ cs hr;exact hl cs hr
 ·rw [A4] at h;split at h
  ·cases h
  ·exact h
end Go.Vc
namespace Go.Vc
open Go
section
variable {P:Program} {B:D5} {ops:Array Oper} {d:Nat} {x y:Operand} {ty:TypeId} {pos:String} {af:Array Edge} {nt nl nh:List (Nat×V)}
theorem Vf (w:World) (t e m:TypeId) {sz:Nat} {ag:Bool} (hu:P.underlying t=some (.array m e)) (ht:TyS P e sz ag) (a:Addr) (lo hi:Option Value) (l h:Nat)
  (hlo:lo=none∧l=0∨∃ k n,lo=some (.int k n)∧0<=n∧l=n.toNat) (hhi:hi=none∧h=m∨∃ k n,hi=some (.int k n)∧0<=n∧h=n.toNat) (h1:l<=h) (h2:h<=m) :
  (Instr.sliceAt t (.pointer (some a)) lo hi none).run P w = .ok (.slice (some (if m=l then a else a.add (l*sz))) (h-l) (m-l)) w:=by
 have hb:∀ (n:Int) (k:IntKind) (y:Nat) (code:BoundsCode),0<=n->n.toNat<=y->(Instr.sliceBound (.int k n) y code).run P w = .ok n.toNat w:=by
  intro n k y code h0 hy;have:n<=(y:Int):=by omega
  simp [Instr.sliceBound,asIntOf,h0,this]
 have hsz:=ht.run_size w;rcases hlo with ⟨rfl,rfl⟩ | ⟨k,n,rfl,hn,rfl⟩
 ·rcases hhi with ⟨rfl,rfl⟩ | ⟨k',n',rfl,hn',rfl⟩
  ·simp [Instr.sliceAt,Instr.sureAddr,run_underlying hu,Instr.sliceBounds,hsz]
  ·have e2:=hb n' k' m .sliceAlen hn' h2;simp [Instr.sliceAt,Instr.sureAddr,run_underlying hu,Instr.sliceBounds,hsz,e2]
 ·rcases hhi with ⟨rfl,rfl⟩ | ⟨k',n',rfl,hn',rfl⟩
  ·have e1:=hb n k h .sliceB hn h1;simp [Instr.sliceAt,Instr.sureAddr,run_underlying hu,Instr.sliceBounds,hsz,e1]
  ·have e1:=hb n k n'.toNat .sliceB hn h1;have e2:=hb n' k' m .sliceAlen hn' h2;simp [Instr.sliceAt,Instr.sureAddr,run_underlying hu,Instr.sliceBounds,hsz,e1,e2]
theorem OpJ.cutA {t e m sz:Nat} {ag:Bool} (hu:P.underlying t=some (.array m e)) (ht:TyS P e sz ag) (hm:m<=9223372036854775807) {es es':List D} {lo hi:Option Operand} {l h:Nat}
  (hlo:(lo=none∧l=0∧nl=[])∨∃ o k n,lo=some o∧Opd o (.d (.int k n)) nl∧0<=n∧l=n.toNat) (hhi:(hi=none∧h=m∧nh=[])∨∃ o k n,hi=some o∧Opd o (.d (.int k n)) nh∧0<=n∧h=n.toNat)
  (h1:l<=h) (h2:h<=m) (hes0:es.length=m->es'=(es.take h).drop l) (hN:d<B.N) (hx:Opd x (.dptr (.arr m sz es)) nt) :
  OpJ P B ops ⟨some d,.slice t x lo hi none,ty,pos,af,none⟩ { nt:=nt++(nl++nh),wt:=[(d,.d (.list sz es'))] } :=
 OpJ.pure rfl rfl hN λenv ob a w σ Z sm hne=>by
  obtain⟨g1,g23⟩:=B4 hne;obtain⟨g2,g3⟩:=B4 g23;obtain⟨b,o,xs,hv,hz,hc,hel0,hs,hr0⟩:=Cs (hx B env ob a w σ Z sm g1);have hre:=D.repE_of_repL es b o xs hr0 hs hc;have hes:=hes0 hel0;have hr:=Vf (P:=P) w t e m hu ht ⟨b,o,none⟩ (lo.map a.eval) (hi.map a.eval) l h
   (by
    rcases hlo with ⟨rfl,h0,_⟩ | ⟨o,k,n,rfl,ho,hn,hl⟩
    ·exact .inl ⟨rfl,h0⟩
    ·exact .inr ⟨k,n,by simp [E6 (ho B env ob a w σ Z sm g2)],hn,hl⟩)
   (by
    rcases hhi with ⟨rfl,h0,_⟩ | ⟨o,k,n,rfl,ho,hn,hl⟩
    ·exact .inl ⟨rfl,h0⟩
    ·exact .inr ⟨k,n,by simp [E6 (ho B env ob a w σ Z sm g3)],hn,hl⟩)
   h1 h2
  have hel:es'.length=h-l:=by rw [hes,List.length_drop,List.length_take,Nat.min_eq_left (by omega)]
  refine⟨.slice (some (if m=l then ⟨b,o,none⟩ else (⟨b,o,none⟩:Addr).add (l*sz))) (h-l) (m-l),by simp only [execOp,hv,Sem.run_bind,Option.map_none,hr,Result.andThen_ok];rfl,?_⟩;refine⟨⟨_,_,by rw [hel],by rw [hel];omega,by omega,?_⟩,.inr rfl⟩
  by_cases hnil:es'=[]
  ·exact .inl hnil
  ·right;have hpos:0<es'.length:=List.length_pos_iff.2 hnil;refine⟨b,o+l*sz,?_,hz,λq hq=>hs q ?_,?_⟩
   ·rw [if_neg (by omega)];simp [K6]
   ·rw [hes] at hq;exact List.mem_of_mem_take (List.mem_of_mem_drop hq)
   ·rw [hes];exact D.repE_drop _ b o l (D.repE_take es b o h hre)
end
section
variable {A:Alg}
def A0v (P:Program) (S:St A) (d:Nat) (t:TypeId) (x:Operand) (lo hi:Option Operand):Option (Stp A) :=
 match P.underlying t,S.op x with
 | some (.array m e),some (.dptr (.arr m' c) j)=>bif tyB P e c.sz c.agg&&c.dat false&&Nat.beq m m'&&Nat.ble m 1000000 then
   let s:=A.arrL m' c (S.lv (.arr m' c) j)
   match lo,hi with
   | none,none=>some (.pure [⟨.list c,s⟩] { nt:=rdk x,wt:=[(d,.d (.list c) S.nl)] })
   | some l,none=>match S.anyI l with
    | some ⟨k,a⟩=>some (.chk (A.ltc k a (m+1)) [⟨.list c,A.cutD c k s a⟩] { nt:=rdk x++rdk l,wt:=[(d,.d (.list c) S.nl)] })
    | none=>none
   | none,some h=>match S.anyI h with
    | some ⟨k,a⟩=>some (.chk (A.ltc k a (m+1)) [⟨.list c,A.cutT c k s a⟩] { nt:=rdk x++rdk h,wt:=[(d,.d (.list c) S.nl)] })
    | none=>none
   | _,_=>none
  else none
 | _,_=>none
end
section
variable {P:Program} {B:D5} {ops:Array Oper} {S:St typ} {d:Nat} {x y:Operand} {ty t:TypeId} {pos:String} {af:Array Edge}
theorem A76 {a:Int} {n:Nat} (h:Dn a (n+1)=true):0<=a∧a.toNat<=n:=by
 simp only [Dn,Bool.and_eq_true,decide_eq_true_eq] at h;omega
theorem A4n [Hid] {lo hi:Option Operand} {s:Stp typ} (hN:d<B.N) (h:A0v P S d t x lo hi=some s):s.Ok P B ops ⟨some d,.slice t x lo hi none,ty,pos,af,none⟩ S:=by
 unfold A0v at h;split at h
 ·rename_i m e m' c j hu hx;cases hb:tyB P e c.sz c.agg&&c.dat false&&Nat.beq m m'&&Nat.ble m 1000000 with
  | false=>rw [hb] at h;cases h
  | true =>
   rw [hb,cond_true] at h;simp only [Bool.and_eq_true] at hb;obtain⟨⟨⟨b1,b2⟩,b3⟩,b4⟩:=hb;have b3:=Nat.eq_of_beq_eq_true b3;subst b3;have b4:=Nat.le_of_ble_eq_true b4;have hx2:Opd x (.dptr (.arr m c.sz (List.map c.enc (S.lv (.arr m c) j)))) (on x ((TV.dptr (.arr m c) j).v S.lv)):=(B6 hx).1;have fin:∀ {zs:List c.T} {l hh:Nat} {nl nh:EL} {kl kh:List Nat},
     (lo=none∧l=0∧nl=[]∨∃ o k n,lo=some o∧Opd o (.d (.int k n)) nl∧0<=n∧l=n.toNat)->(hi=none∧hh=m∧nh=[]∨∃ o k n,hi=some o∧Opd o (.d (.int k n)) nh∧0<=n∧hh=n.toNat) ->
     l<=hh->hh<=m->(List.length (S.lv (.arr m c) j)=m->zs=List.drop l (List.take hh (S.lv (.arr m c) j)))->rE S.e nl=rE' nl->rE S.e nh=rE' nh->B8 nl=kl->B8 nh=kh ->
     OkO P B ops ⟨some d,.slice t x lo hi none,ty,pos,af,none⟩ S [⟨.list c,zs⟩] { nt:=rdk x++(kl++kh),wt:=[(d,.d (.list c) S.nl)] }:=fun {zs l hh nl nh kl kh} h1 h2 h3 h4 h5 h6 h7 h8 h9 =>
    ⟨_,OpJ.cutA hu (F0 b1) (by omega) (es':=List.map c.enc zs) h1 h2 h3 h4 (λhl=>by rw [h5 (by rw [List.length_map] at hl;exact hl),List.map_drop,List.map_take]) hN hx2,E4 (B6 hx).2 (E4 h6 h7),rfl,rfl,by simp only [eOf,List.map,E5];rfl,rfl,by rw [D6,D6,C5,h8,h9],rfl,rfl⟩
   split at h
   ·cases h;have:=fin (zs:=S.lv (.arr m c) j) (l:=0) (hh:=m) (.inl ⟨rfl,rfl,rfl⟩) (.inl ⟨rfl,rfl,rfl⟩) (Nat.zero_le _) (Nat.le_refl _) (λhl=>by rw [List.take_of_length_le (by omega)];rfl) rfl rfl rfl rfl;simpa [B8,Stp.Ok] using this
   ·rename_i l;split at h
    ·rename_i k a hl;obtain⟨tx,e1,e2⟩:=E7 hl;cases h;intro hq;obtain⟨g1,g2⟩:=A76 hq;have:=fin (zs:=List.drop (Int.toNat a) (S.lv (.arr m c) j)) (l:=Int.toNat a) (hh:=m) (.inr ⟨l,k,a,rfl,e2 ▸ (B6 e1).1,g1,rfl⟩) (.inl ⟨rfl,rfl,rfl⟩) g2 (Nat.le_refl _) (λhl=>by rw [List.take_of_length_le (by omega)]) (B6 e1).2 rfl (C5 _ _) rfl;simpa [B8,Stp.Ok] using this
    ·cases h
   ·rename_i hh;split at h
    ·rename_i k a hl;obtain⟨tx,e1,e2⟩:=E7 hl;cases h;intro hq;obtain⟨g1,g2⟩:=A76 hq;have:=fin (zs:=List.take (Int.toNat a) (S.lv (.arr m c) j)) (l:=0) (hh:=Int.toNat a) (.inl ⟨rfl,rfl,rfl⟩) (.inr ⟨hh,k,a,rfl,e2 ▸ (B6 e1).1,g1,rfl⟩) (Nat.zero_le _) g2 (λ_=>rfl) rfl (B6 e1).2 rfl (C5 _ _);simpa [B8,Stp.Ok] using this
    ·cases h
   ·cases h
 ·cases h
end
end Go.Vc
namespace Go.Vc
open Go Go.Lib
theorem El {P:Program} (w:World) (base:Nat) (t tn ty e:TypeId) (i:TypeInfo) (z:Value) (sz bytes:Nat) (ht:P.underlying t=some (.slice e)) (htn:P.underlying tn=some (.int .i64)) (hi:P.info? e=some i) (hz:i.zero=some z)
  (hs:i.size=sz) (hby:i.bytes=bytes) (hzs:z.cells.size=sz) (hpos:0<sz) (hone:∀ u∈z.cells.toList,u.oneCell'=true) (v:Value) (n:Nat) (xs:List Value) (hown:w.ownsRow base e sz v n xs) (k:Nat) (h0:0<k)
  (h63:n+k<=4294967296) (hbytes:(n+k)*bytes<=140737488355328) (hbase:base<=w.heap.size) :
  ∃ v' w',(Builtin.append_ #[t,tn] ty #[v,.int .i64 (k:Nat)]).run P w = .ok v' w'∧w'.ownsRow base e sz v' (n+k) (xs++(Builtin.zeroCells z.cells k).toList)∧w.grownBy w' v.ownBlock ∧
   (v'.ownBlock=v.ownBlock∨v'.ownBlock=some w.heap.size):=by
 have hxl:xs.length=n*sz:=hown.1;have hzl:(Builtin.zeroCells z.cells k).toList.length=k*sz:=by rw [Array.length_toList,size_zeroCells,hzs]
 have hlen:(xs++(Builtin.zeroCells z.cells k).toList).length=(n+k)*sz:=by rw [List.length_append,hxl,hzl,Nat.add_mul]
 have hkb:k*bytes<=281474976710656:=by
  have:k*bytes<=(n+k)*bytes:=Nat.mul_le_mul_right _ (by omega);omega
 have grown:∀ (old:Nat),old<n+k->∀ (row:Option Nat),
   (w.drew.alloc (.cells (xs.toArray++Builtin.zeroCells z.cells k++Builtin.zeroCells z.cells (grownCap w (n+k) old e-(n+k))) e)).ownsRow base e sz
    (.slice (some ⟨w.heap.size,0,none⟩) (n+k) (grownCap w (n+k) old e)) (n+k) (xs++(Builtin.zeroCells z.cells k).toList) ∧
   w.grownBy (w.drew.alloc (.cells (xs.toArray++Builtin.zeroCells z.cells k++Builtin.zeroCells z.cells (grownCap w (n+k) old e-(n+k))) e)) row:=by
  intro old ho row;have hge:=grownCap_ge w (n+k) old e;have hcm:grownCap w (n+k) old e<=maxLen:=grownCap_le_maxLen w (n+k) old e (by simp only [maxLen];omega);refine⟨⟨hlen,.inr ⟨w.heap.size,_,_,rfl,hbase,heap_alloc_new w.drew _,hge,hcm,?_,?_⟩⟩,⟨rfl,rfl,rfl,by simp,λq hk _=>heap_alloc_old w.drew _ hk⟩⟩
  ·simp only [Array.size_append,List.size_toArray,size_zeroCells,hzs,hxl,<- Nat.add_mul];congr 1;omega
  ·simp only [Array.toList_append];rw [<- hlen];exact List.take_left
 rcases hown.2 with ⟨rfl,rfl⟩ | ⟨g,cap,cur,rfl,hbg,hg,hnc,hcm,hcs,htake⟩
 ·have hx:xs=[]:=List.eq_nil_of_length_eq_zero (by omega);subst hx;have hold:(Builtin.firstCells i.size 0 (.slice none 0 0)).run P w.drew = .ok ([]:List Value).toArray w.drew:=run_firstCells_none _ _ _ _ _;have hr:=Lib.run_append_grow_zeros w t tn ty e i z .i64 .i64 ht htn hi hz none 0 0 [] hold k h0 (by rw [hs];exact hpos) (by omega) (by omega) (by rw [hby];exact hkb) (by rw [hby];exact growslice_fits (by omega) hbytes);have hg:=grown 0 (by omega) (Value.ownBlock (.slice none 0 0));exact⟨_,_,hr,hg.1,hg.2,.inr rfl⟩
 ·by_cases hroom:n+k<=cap
  ·have hfit:n*sz+(Builtin.zeroCells z.cells k).toList.length<=cur.size:=by
    rw [hzl,hcs,<- Nat.add_mul];exact Nat.mul_le_mul_right _ hroom
   have h1:∀ u∈(Builtin.zeroCells z.cells k).toList,u.oneCell'=true:=by
    intro u hu;simp only [Builtin.zeroCells,Array.toList_map,List.mem_map] at hu;obtain⟨j,_,rfl⟩:=hu;have hm:j % z.cells.size<z.cells.size:=Nat.mod_lt _ (by omega);rw [getElem!_pos z.cells _ hm];exact hone _ (Array.getElem_mem_toList hm)
   have hst:=run_storeCells_at P g (n*sz) e (Builtin.zeroCells z.cells k).toList 0 cur w hg (by simpa using hfit) h1;simp only [Nat.add_zero] at hst;have hk:k≠0:=by omega
   have hw:IntKind.i64.wrap (k:Int)=k:=by rw [IntKind.wrap_i64];omega
   have h48i:¬ (281474976710656<(k:Int)*(i.bytes:Int)):=by
    rw [<- Int.natCast_mul,hby];omega
   have hneg:¬ ((k:Int)<0):=by omega
   have hns:¬ (k*sz=0):=Nat.mul_ne_zero hk (by omega);have hr:(Builtin.append_ #[t,tn] ty #[.slice (some ⟨g,0,none⟩) n cap,.int .i64 (k:Nat)]).run P w = .ok (.slice (some ⟨g,0,none⟩) (n+k) cap) (w.setRow g (cur.toList.take (n*sz)++(Builtin.zeroCells z.cells k).toList++cur.toList.drop (n*sz+(Builtin.zeroCells z.cells k).toList.length)).toArray):=by
    simp [Builtin.append_,run_underlying ht,run_underlying htn,sizeOf,typeInfo,zeroValue,hi,hz,asInt,asIntOf,hw,hneg,hns,h48i,hroom,hs,Addr.add_lit,hst]
   refine⟨_,_,hr,⟨hlen,.inr ⟨g,cap,_,rfl,hbg,setRow_heap w g cur _ e _ hg,hroom,hcm,?_,?_⟩⟩,⟨rfl,rfl,rfl,by simp,λk _ hk=>setRow_other w g k _ (λe=>hk (by simp [Value.ownBlock,e]))⟩,.inl rfl⟩
   ·simp only [List.size_toArray,List.length_append,List.length_take,List.length_drop,Array.length_toList] at hfit ⊢;rw [hcs] at hfit ⊢;omega
   ·have e1:(cur.toList.take (n*sz)++(Builtin.zeroCells z.cells k).toList++cur.toList.drop (n*sz+(Builtin.zeroCells z.cells k).toList.length)).toArray.toList=(xs++(Builtin.zeroCells z.cells k).toList)++cur.toList.drop (n*sz+(Builtin.zeroCells z.cells k).toList.length):=by rw [htake]
    rw [e1,<- hlen];exact List.take_left
  ·have holds:∀ j u,xs[j]? = some u->w.cell? ((⟨g,0,none⟩:Addr).add j)=some u:=hown.cells (g:=g) rfl;have hold:=run_firstCells_some (P:=P) w.drew i.size n ⟨g,0,none⟩ n cap xs (by rw [hs];exact hxl) (by simpa using holds);have hr:=Lib.run_append_grow_zeros w t tn ty e i z .i64 .i64 ht htn hi hz (some ⟨g,0,none⟩) n cap xs hold k h0 (by rw [hs];exact hpos) (by omega) (by omega) (by rw [hby];exact hkb) (by rw [hby];exact growslice_fits (by omega) hbytes);have hg:=grown cap (by omega) (Value.ownBlock (.slice (some ⟨g,0,none⟩) n cap));exact⟨_,_,hr,hg.1,hg.2,.inr rfl⟩
section
variable {P:Program} {B:D5} {ops:Array Oper} {d:Nat} {x y:Operand} {ty:TypeId} {pos:String} {af:Array Edge} {nt nt':List (Nat×V)}
theorem OpJ.growRZ {t tn e sz bytes n nm l0:Nat} {k:Int} {z:D} {es es':List D} (hB:B.ok) (hu:P.underlying t=some (.slice e)) (hun:P.underlying tn=some (.int .i64)) (he:TyE P e sz bytes) (hz:TyZ P e (.d z)) (hzs:z.sz=sz) (hnm:1000<=nm)
  (hk:0<k) (hlim:es'.length<=4294967296) (hb:es'.length*bytes<=140737488355328) {len:Nat} (hlen:len=es'.length) (hes:es'=es++List.replicate k.toNat z) (hl0:l0=es.length) (hN:d<B.N)
  (hx:Opd x (.sref n sz 0 l0) nt) (hy:Opd y (.d (.int .i64 k)) nt') :
  OpJ P B ops ⟨some d,.call { callee:=.builtin .append,args:=#[x,y],argTypes:=#[t,tn] },ty,pos,af,none⟩ { nt:=nt++nt',no:=[(n,.row e sz es)],nf:=[nm],wt:=[(d,.sref nm sz 0 len)],wo:=[(nm,some (.row e sz es')),(n,none)] } :=
 OpJ.run rfl rfl hN rfl λenv ob a w σ Z sm hne=>by
  subst hl0;obtain⟨h1,h2⟩:=B4 hne.1;have hob:=hne.2.1 (n,.row e sz es) (by simp);have hl:live ob n:=⟨_,hob⟩;have hfr:ob nm=none:=hne.2.2 nm (by simp);have hnn:nm≠n:=λh=>by subst h;exact hl.used hfr
  have hro:=sm.obj n _ hob;obtain⟨xs,hown,hrep,hblk⟩:=Ct (hx B env ob a w σ Z sm h1) hl hro;have hyv:=E6 (hy B env ob a w σ Z sm h2);obtain⟨ti,zv,hinf,hz',hs,hby,hzs'⟩:=he.get;have hlen':es'.length=es.length+k.toNat:=by rw [hes,List.length_append,List.length_replicate]
  have hkn:((k.toNat:Nat):Int)=k:=Int.toNat_of_nonneg (by omega);have hzc:zv.cells.toList=z.enc:=by
   have h3:=hz.run w;simp only [zeroValue,typeInfo,Sem.run_bind] at h3;have h4:=hz.cells;simp [hinf,hz'] at h3;rw [h3];exact h4
  have hrz:=D.rep_enc (Z:=Z) (w:=w) z hz.plain;have hzl:z.enc.length=sz:=by rw [D.rep_len z _ hrz,hzs]
  have hcells:zv.cells=z.enc.toArray:=by rw [<- hzc]
  have hpos:=he.pos;have hzero:(Builtin.zeroCells zv.cells k.toNat).toList=(List.replicate k.toNat z.enc).flatten:=by
   have:=I6 z.enc (by omega) k.toNat;rw [<- this,hcells];simp [Builtin.zeroCells]
  obtain⟨v',w',hr,hown',hgr,hat⟩:=El (P:=P) w 0 t tn ty e ti zv sz bytes hu hun hinf hz' hs hby hzs' hpos (by rw [hzc];exact D.rep_one z _ hrz) (a.eval x) es.length xs hown k.toNat (by omega) (by omega) (by rw [<- hlen'];exact hb) (Nat.zero_le _);rw [hzero] at hown';rw [hkn] at hr;have hall:D.repL Z w es' (xs++(List.replicate k.toNat z.enc).flatten):=by rw [hes];exact D.repL_append es _ xs _ hrep (H4 hz.plain _)
  have sk:=sm.kill n;have hlv:∀ m,live (B9 ob n none) m->m≠n∧live ob m:=λm hm=>by
   rw [C1] at hm
   by_cases hmn:m=n
   ·rw [if_pos hmn] at hm;simp at hm
   ·rw [if_neg hmn] at hm;exact⟨hmn,hm⟩
  have s2:=sk.rowNew sm (Fx ob n) hB (nm:=nm) (by simp [B9,hnn,hfr]) hnm hgr
   (λm b hm hb e=>(hlv m hm).1 (sm.inj m n b (hlv m hm).2 hl hb (by rw [<- hblk,<- e])))
   (λb hb=>⟨n,hl,by rw [<- hblk,hb]⟩) hat
   (o:=.row e sz es') λob' σ' m hσ=>by
    refine⟨he.pos,?_,v',_,by rw [hlen'];exact hown',D.repL_ext m.ext _ _ hall,hσ.symm,λhn => ?_⟩
    ·intro q hq;rw [hes] at hq;rcases List.mem_append.1 hq with hq | hq
     ·exact hro.2.1 q hq
     ·rw [List.eq_of_mem_replicate hq,hzs]
    ·rw [hσ] at hn;rcases hown'.2 with ⟨_,h0⟩ | ⟨g,cap,cur,hv,_⟩
     ·exact List.eq_nil_of_length_eq_zero (by omega)
     ·rw [hv] at hn;simp [Value.ownBlock] at hn
  rw [Cr _ rfl];refine⟨v',w',_,Z,?_,s2,?_⟩
  ·simp only [execOp,resolve,invoke,builtin,Sem.run_bind,Sem.run_pure,Result.andThen_ok,List.map_toArray,List.map_cons,List.map_nil,hyv,hr]
  ·rw [hlen,hlen'];exact J6 (e:=e) (xs:=xs++(List.replicate k.toNat z.enc).flatten) (by rw [C1];simp) hown' (by simp [G3])
end
section
variable {A:Alg}
def Tl (P:Program) (S:St A) (d:Nat) (t tn:TypeId) (x y:Operand):Option (Stp A) :=
 match P.underlying t,P.underlying tn,S.op x,S.anyI y with
 | some (.slice e),some (.int .i64),some (.sref n c' j),some ⟨.i64,a⟩=>match V3 P 12 e,A1 S.O n with
  | some c,some (some (.row e' c2 i))=>bif Bl P e c.sz (bytesOf P e)&&Nat.ble (bytesOf P e) 32768&&Nat.ble 1000 S.nx&&c.dat false&&zB P e (.d (c.enc c.zero))&&Nat.beq e' e&&decide (c'=c)&&decide (c2=c) then
    let l:=A.app c (S.lv (.list c) i) (A.repL c .i64 a (A.zero c))
    let b:=A.and (A.cmp .lss .i64 (A.ki .i64 0) a) (A.fitL c l)
    some (.chk (bif Nat.beq i j then b else A.and (A.sameLen c (S.lv (.list c) j) (S.lv (.list c) i)) b) [⟨.list c,l⟩] { nt:=rdk x++rdk y,no:=[n],nf:=[S.nx],wt:=[(d,.sref S.nx c S.nl)],wo:=[(S.nx,some (.row e c S.nl)),(n,none)] })
   else none
  | _,_=>none
 | _,_,_,_=>none
end
section
variable {P:Program} {B:D5} {ops:Array Oper} {S:St typ} {d:Nat} {x y:Operand} {ty t:TypeId} {pos:String} {af:Array Edge}
theorem Yt [Hid] {tn:TypeId} {s:Stp typ} (hB:B.ok) (hN:d<B.N) (hS:S.ok) (hf:A1 S.O S.nx=none) (h:Tl P S d t tn x y=some s):s.Ok P B ops ⟨some d,.call { callee:=.builtin .append,args:=#[x,y],argTypes:=#[t,tn] },ty,pos,af,none⟩ S:=by
 unfold Tl at h;split at h
 ·rename_i e n c' j a hu hun hx hy;split at h
  ·rename_i c e' c2 i hc hn;cases hb:Bl P e c.sz (bytesOf P e)&&Nat.ble (bytesOf P e) 32768&&Nat.ble 1000 S.nx&&c.dat false&&zB P e (.d (c.enc c.zero))&&Nat.beq e' e&&decide (c'=c)&&decide (c2=c) with
   | false=>rw [hb] at h;cases h
   | true =>
    rw [hb,cond_true] at h;simp only [Bool.and_eq_true,decide_eq_true_eq] at hb;obtain⟨⟨⟨hb,b6⟩,rfl⟩,rfl⟩:=hb;have b6:=Nat.eq_of_beq_eq_true b6;subst b6;cases h;intro hq;have hq2:Bool.and (A0b .lss 0 a) (decide (List.length (List.append (S.lv (.list c2) i) (List.replicate (Int.toNat a) c2.zero))<=LIM))=true∧List.length (S.lv (.list c2) j)=List.length (S.lv (.list c2) i):=by
     cases hij:Nat.beq i j with
     | true =>
      rw [hij] at hq;have:=Nat.eq_of_beq_eq_true hij;subst this;exact⟨hq,rfl⟩
     | false =>
      rw [hij] at hq;obtain⟨h1,h2⟩:=H8 hq;exact⟨h2,of_decide_eq_true h1⟩
    obtain⟨h1,h2⟩:=H8 hq2.1;have h1:(0:Int)<a:=of_decide_eq_true (show A0b .lss 0 a=true from h1);obtain⟨tx,e1,e2⟩:=E7 hy;have hy2:=(B6 e1).1;rw [e2] at hy2;refine⟨_,OpJ.growRZ hB hu hun (W4 hb.1.1.1.1) (Dc hb.2) (Ty.D7 hb.1.2 _) (Nat.le_of_ble_eq_true hb.1.1.2) h1 (n:=n) (es:=List.map c2.enc (S.lv (.list c2) i)) (es':=List.map c2.enc (List.append (S.lv (.list c2) i) (List.replicate (Int.toNat a) c2.zero))) ?_ ?_ (len:=List.length (List.append (S.lv (.list c2) i) (List.replicate (Int.toNat a) c2.zero))) (List.length_map ..).symm ?_ ?_ hN (B6 hx).1 hy2,E4 (B6 hx).2 (e2 ▸ (B6 e1).2),?_,rF1 hf,?_,?_,by rw [D6,C5,C5],rfl,rfl⟩
    ·rw [List.length_map];exact of_decide_eq_true h2
    ·rw [List.length_map];exact Y9 h2 hb.1.1.1.2
    ·rw [<- List.map_replicate];exact List.map_append ..
    ·rw [List.length_map];exact hq2.2
    ·simp only [rO,rO',F4,hn,Option.map_some];rfl
    ·simp only [eOf,List.map,T2]
    ·simp only [oOf,List.map,Option.map,P0]
  ·cases h
 ·cases h
end
end Go.Vc
namespace Go.Vc
open Go
variable {P:Program}
def A9v (P:Program) (n:Nat) (t:TypeId) (c:Ty):Prop:=∀ (d:Nat),n<=d->∀ (em:Bool) (w w1:World) (Z:Nat->Prop) (x:c.T) (cx:List Value),D.rep Z w1 (c.enc x) cx->(Instr.checkKey em d t (D3 c.agg cx)).run P w = .ok () w
theorem B2b {n:Nat} {h:TypeId->Ty->Bool} (hh:∀ t c,h t c=true->A9v P n t c) (em:Bool):∀ {fs:List Field} {c:Ty} {o:Nat},eqF h P o fs c=true->∀ {d:Nat},n<=d->∀ {w w1:World} {Z:Nat->Prop} {x:c.T} {px cx:List Value},
  px.length=o->D.repL Z w1 (c.encs x) cx ->
  ((forIn fs PUnit.unit λf (_:PUnit)=>if f.name ≠ "_" then (do Instr.checkKey em d f.type (<- part f.type (px++cx).toArray f.offset);pure (ForInStep.yield PUnit.unit)) else pure (ForInStep.yield PUnit.unit):Sem PUnit)).run P w = .ok PUnit.unit w:=by
 have one:∀ {f:Field} {c:Ty} {o:Nat},((f.name != "_")&&Nat.beq f.offset o&&tyB P f.type c.sz c.agg&&c.dat false&&h f.type c)=true->∀ {d:Nat},n<=d->∀ {w w1:World} {Z:Nat->Prop} {x:c.T} {px c1 c2:List Value},
   px.length=o->D.rep Z w1 (c.enc x) c1->f.name ≠ "_" ∧ (part f.type (px++(c1++c2)).toArray f.offset).run P w = .ok (D3 c.agg c1) w∧(Instr.checkKey em d f.type (D3 c.agg c1)).run P w = .ok () w:=by
  intro f c o hf d hd w w1 Z x px c1 c2 hpx r1;simp only [Bool.and_eq_true,bne_iff_ne,ne_eq] at hf;obtain⟨⟨⟨⟨f1,f2⟩,f3⟩,f4⟩,f5⟩:=hf;have f2:=Nat.eq_of_beq_eq_true f2;have ht:=F0 f3;have l1:=D.rep_len _ _ r1;rw [Ty.D7 f4] at l1;have s1:c.agg=false->c.sz=1:=λe=>by
   rw [<- Ty.D7 f4 x];exact D.sz_one (by rw [Ty.O4 f4,e])
  have p1:=I0 ht w px c1 c2 l1 s1 (hpx.trans f2.symm);rw [List.append_assoc] at p1;exact⟨f1,p1,hh _ _ f5 d hd em w w1 Z x c1 r1⟩
 intro fs;induction fs with
 | nil =>
  intro c o hf d hd w w1 Z x px cx _ _;simp
 | cons f fs ih =>
  intro c o hf d hd w w1 Z x px cx hpx rx;cases fs with
  | nil =>
   have hf:((f.name != "_")&&Nat.beq f.offset o&&tyB P f.type c.sz c.agg&&c.dat false&&h f.type c)=true:=by
    cases c<;>exact hf
   have hdat:c.dat false=true:=by simp only [Bool.and_eq_true] at hf;exact hf.1.2
   rw [Ty.F2 hdat] at rx;obtain⟨c1,c2,rfl,r1,r2⟩:=rx;obtain⟨q1,q2,q3⟩:=one hf hd (w:=w) (c2:=c2) hpx r1;rw [List.forIn_cons];simp only [q1,ne_eq,not_false_eq_true,if_true,Sem.run_bind,q2,q3,Result.andThen_ok,Sem.run_pure,List.forIn_nil]
  | cons f2 fs =>
   cases c with
   | pr a b =>
    have hf:((f.name != "_")&&Nat.beq f.offset o&&tyB P f.type a.sz a.agg&&a.dat false&&h f.type a&&eqF h P (o+a.sz) (f2 :: fs) b)=true:=hf;rw [Bool.and_eq_true] at hf;obtain⟨hf1,hf2⟩:=hf;have hdat:a.dat false=true:=by simp only [Bool.and_eq_true] at hf1;exact hf1.1.2
    have ex:(Ty.pr a b).encs x=a.enc x.1 :: b.encs x.2:=by show a.encs x.1++b.encs x.2=_;rw [Ty.F2 hdat];rfl
    rw [ex] at rx;obtain⟨c1,c2,rfl,r1,r2⟩:=rx;have l1:=D.rep_len _ _ r1;rw [Ty.D7 hdat] at l1;obtain⟨q1,q2,q3⟩:=one hf1 hd (w:=w) (c2:=c2) hpx r1;have:=ih (c:=b) hf2 hd (w:=w) (px:=px++c1) (by rw [List.length_append];omega) r2;rw [List.append_assoc] at this;rw [List.forIn_cons];simp only [q1,ne_eq,not_false_eq_true,if_true,Sem.run_bind,q2,q3,Result.andThen_ok,Sem.run_pure];exact this
   | _=>simp [eqF] at hf
theorem A23 {n:Nat} {et:TypeId} {e:Ty} (he:A9v P n et e) (ht:TyS P et e.sz e.agg) (hd:e.dat false=true) (em:Bool) {d:Nat} (hn:n<=d) {w w1:World} {Z:Nat->Prop}:∀ (xs:List e.T) (px cx:List Value) (k:Nat),px.length=k*e.sz ->
  D.repL Z w1 (xs.map e.enc) cx->((forIn (List.range' k xs.length) PUnit.unit λi (_:PUnit)=>(do Instr.checkKey em d et (<- part et (px++cx).toArray (i*(<- sizeOf et)));pure (ForInStep.yield PUnit.unit)):Sem PUnit)).run P w = .ok PUnit.unit w
 | [],px,cx,k,_,_=>by simp
 | x :: xs,px,cx,k,hpx,rx=>by
  obtain⟨c1,c2,rfl,r1,r2⟩:=rx;have l1:=D.rep_len _ _ r1;rw [Ty.D7 hd] at l1;have s1:e.agg=false->e.sz=1:=λq=>by
   rw [<- Ty.D7 hd x];exact D.sz_one (by rw [Ty.O4 hd,q])
  have p1:=I0 ht w px c1 c2 l1 s1 hpx;rw [List.append_assoc] at p1;have ih:=A23 he ht hd em hn (w:=w) xs (px++c1) c2 (k+1) (by rw [List.length_append,l1,hpx,Nat.succ_mul]) r2;rw [List.append_assoc] at ih;rw [List.length_cons,List.range'_succ,List.forIn_cons];simp only [Sem.run_bind,ht.run_size,p1,he d hn em w w1 Z x c1 r1,Result.andThen_ok,Sem.run_pure];exact ih
theorem Rx:∀ (n:Nat) (t:TypeId) (c:Ty),eqB P n t c=true->A9v P n t c
 | 0,_,_,h=>by simp [eqB] at h
 | n+1,t,c,h=>by
  intro d hd em w w1 Z x cx rx;obtain⟨d,rfl⟩:∃ e,d=e+1:=⟨d-1,by omega⟩;unfold eqB at h;split at h
  ·rename_i hu;exact(R3.bool (P:=P) (h:=n) x x hu).check (w:=w) em (d:=d+1) (by omega) rx
  ·rename_i hu;exact(R3.int (P:=P) (h:=n) x x hu).check (w:=w) em (d:=d+1) (by omega) rx
  ·rename_i hu;exact(R3.str (P:=P) (h:=n) x x hu).check (w:=w) em (d:=d+1) (by omega) rx
  ·rename_i b fs hu;simp only [Bool.and_eq_true,Bool.not_eq_true'] at h;have:=B2b (P:=P) (n:=n) (h:=eqB P n) (λt c=>Rx n t c) em h.2 (d:=d) (by omega) (w:=w) (px:=[]) rfl rx;simp only [D3,Ty.agg,if_true];unfold Instr.checkKey;simp only [Sem.run_bind,run_underlying hu,Result.andThen_ok];rw [<- Array.forIn_toList];simp at this;simp [this]
  ·rename_i m e m' et hu;simp only [Bool.and_eq_true] at h;obtain⟨⟨⟨⟨h1,h2⟩,h3⟩,h4⟩,h5⟩:=h;have h1:=Nat.eq_of_beq_eq_true h1;subst h1;obtain⟨q1,_,q3⟩:(List.map e.enc (show List e.T from x)).length=m∧_∧_:=rx;rw [List.length_map] at q1;have:=A23 (P:=P) (Rx n et e h5) (F0 h2) h3 em (d:=d) (by omega) (w:=w) x [] cx 0 (by simp) q3;simp only [D3,Ty.agg,if_true];unfold Instr.checkKey;simp only [Sem.run_bind,run_underlying hu,Result.andThen_ok];simp only [Std.Legacy.Range.forIn_eq_forIn_range',Std.Legacy.Range.size,Nat.sub_zero,Nat.add_one_sub_one,Nat.div_one];rw [q1,List.nil_append] at this;simp at this;simp [this]
  ·cases h
theorem Be {Z Z':Nat->Prop} {w w':World}:∀ {c:Ty} {f:Bool},c.cmpb=true->c.dat f=true->∀ (x:c.T) {c1 c2:List Value},D.repL Z w (c.encs x) c1->D.repL Z' w' (c.encs x) c2->c1=c2∧∀ v∈c1,X7 v=true
 | .bool,_,_,_,x,c1,c2,h1,h2 | .int _,_,_,_,x,c1,c2,h1,h2 | .str,_,_,_,x,c1,c2,h1,h2=>by
  obtain⟨a1,b1,rfl,r1,e1⟩:=h1;obtain⟨a2,b2,rfl,r2,e2⟩:=h2;cases r1;cases r2;cases e1;cases e2;simp [X7]
 | .nil,_,_,_,_,c1,c2,h1,h2=>by cases h1;cases h2;exact⟨rfl,λv h=>by cases h⟩
 | .pr a b,f,hc,hd,x,c1,c2,h1,h2=>by
  simp only [Ty.cmpb,Bool.and_eq_true] at hc;simp only [Ty.dat,Bool.and_eq_true] at hd;have e:(Ty.pr a b).encs x=a.encs x.1++b.encs x.2:=rfl;rw [e] at h1 h2;obtain⟨a1,b1,rfl,r1,s1⟩:=Gh h1;obtain⟨a2,b2,rfl,r2,s2⟩:=Gh h2;obtain⟨rfl,p1⟩:=Be hc.1 hd.1.2 x.1 r1 r2;obtain⟨rfl,p2⟩:=Be hc.2 hd.2 x.2 s1 s2;exact⟨rfl,λv hv=>(List.mem_append.1 hv).elim (p1 v) (p2 v)⟩
 | .st b,f,hc,hd,x,c1,c2,h1,h2=>by
  obtain⟨a1,b1,rfl,r1,e1⟩:=h1;obtain⟨a2,b2,rfl,r2,e2⟩:=h2;cases e1;cases e2;obtain⟨rfl,p⟩:=Be (c:=b) (f:=true) hc hd x r1 r2;exact⟨rfl,λv hv=>p v (by simpa using hv)⟩
 | .arr m e,f,hc,hd,x,c1,c2,h1,h2=>by
  obtain⟨a1,b1,rfl,r1,e1⟩:=h1;obtain⟨a2,b2,rfl,r2,e2⟩:=h2;cases e1;cases e2;obtain⟨_,_,r1⟩:=r1;obtain⟨_,_,r2⟩:=r2;have key:∀ (l:List e.T) (c1 c2:List Value),D.repL Z w (l.map e.enc) c1->D.repL Z' w' (l.map e.enc) c2->c1=c2∧∀ v∈c1,X7 v=true:=by
   intro l;induction l with
   | nil=>intro c1 c2 h1 h2;cases h1;cases h2;exact⟨rfl,λv h=>by cases h⟩
   | cons y l ih =>
    intro c1 c2 h1 h2;obtain⟨a1,b1,rfl,r1,s1⟩:=h1;obtain⟨a2,b2,rfl,r2,s2⟩:=h2;have t1:D.repL Z w (e.encs y) a1:=by rw [Ty.F2 hd];exact⟨a1,[],by simp,r1,rfl⟩
    have t2:D.repL Z' w' (e.encs y) a2:=by rw [Ty.F2 hd];exact⟨a2,[],by simp,r2,rfl⟩
    obtain⟨rfl,p1⟩:=Be (c:=e) (f:=false) hc hd y t1 t2;obtain⟨rfl,p2⟩:=ih b1 b2 s1 s2;exact⟨rfl,λv hv=>(List.mem_append.1 hv).elim (p1 v) (p2 v)⟩
  obtain⟨rfl,p⟩:=key x a1 a2 r1 r2;exact⟨rfl,λv hv=>p v (by simpa using hv)⟩
 | .list _,_,hc,_,_,_,_,_,_ | .sum _ _,_,hc,_,_,_,_,_,_=>by simp [Ty.cmpb] at hc
theorem B75 {x:D} {Z Z':Nat->Prop} {w w1 w2:World} {v1 v2:Value} (ho:∀ {c1 c2:List Value},D.rep Z w1 x c1->D.rep Z' w2 x c2->c1=c2∧∀ v∈c1,X7 v=true) (h1:DV Z w1 x v1) (h2:DV Z' w2 x v2):(Instr.keyThatStays v1 v2).run P w = .ok v2 w:=by
 obtain⟨c1,rfl,r1⟩:=h1;obtain⟨c2,rfl,r2⟩:=h2;obtain⟨rfl,hp⟩:=ho r1 r2;have hs:Instr.sameBits 10000 (D3 x.isAgg c1) (D3 x.isAgg c1)=true:=by
  cases hx:x.isAgg with
  | true =>
   simp only [D3,if_true];rw [show(10000:Nat)=9999+1 from rfl];unfold Instr.sameBits;simp only [beq_self_eq_true,Bool.true_and];exact Us _ λv hv=>Cx (hp v hv) _
  | false =>
   have hl:=D.rep_len x c1 r1;rw [D.sz_one hx] at hl
   match c1,hl with
   | [c],_ =>
    simp only [D3,Bool.false_eq_true,if_false,List.headD];exact Cx (hp c (List.mem_cons_self ..)) _
 simp [Instr.keyThatStays,hs]
theorem A24 {α β:Type} {f:α->β} (hf:∀ a b,f a=f b->a=b):∀ l m:List α,l.map f=m.map f->l=m
 | [],[],_=>rfl
 | [],_ :: _,h | _ :: _,[],h=>by simp at h
 | a :: l,b :: m,h=>by
  simp only [List.map_cons,List.cons.injEq] at h;rw [hf a b h.1,A24 hf l m h.2]
theorem Dd:∀ {c:Ty} {f:Bool},c.cmpb=true->c.dat f=true->∀ {x y:c.T},c.encs x=c.encs y->x=y
 | .bool,_,_,_,x,y,h | .int _,_,_,_,x,y,h | .str,_,_,_,x,y,h=>by simpa [Ty.encs] using h
 | .nil,_,_,_,_,_,_=>rfl
 | .pr a b,f,hc,hd,x,y,h=>by
  simp only [Ty.cmpb,Bool.and_eq_true] at hc;simp only [Ty.dat,Bool.and_eq_true] at hd;have h:a.encs x.1++b.encs x.2=a.encs y.1++b.encs y.2:=h;rw [Ty.F2 hd.1.2,Ty.F2 hd.1.2] at h;simp only [List.singleton_append,List.cons.injEq] at h;have h1:x.1=y.1:=Dd hc.1 hd.1.2 (by rw [Ty.F2 hd.1.2,Ty.F2 hd.1.2,h.1]);exact Prod.ext h1 (Dd hc.2 hd.2 h.2)
 | .st b,f,hc,hd,x,y,h=>by
  have h:[D.st (b.encs x)]=[D.st (b.encs y)]:=h;simp only [List.cons.injEq,D.st.injEq,and_true] at h;exact Dd (c:=b) (f:=true) hc hd h
 | .arr m e,f,hc,hd,x,y,h=>by
  have h:[D.arr m e.sz (List.map e.enc x)]=[D.arr m e.sz (List.map e.enc y)]:=h;simp only [List.cons.injEq,D.arr.injEq,and_true,true_and] at h;have inj:∀ a b:e.T,e.enc a=e.enc b->a=b:=λa b hab=>Dd (c:=e) (f:=false) hc hd (by rw [Ty.F2 hd,Ty.F2 hd,hab]);exact A24 inj x y h
 | .list _,_,hc,_,_,_,_ | .sum _ _,_,hc,_,_,_,_=>by simp [Ty.cmpb] at hc
theorem B2c {c:Ty} (hc:c.cmpb=true) (hd:c.dat false=true) {x y:c.T} (h:c.enc x=c.enc y):x=y:=Dd hc hd (by rw [Ty.F2 hd,Ty.F2 hd,h])
def Oy (P:Program) (t:TypeId) (c:Ty):Bool:=eqB P 12 t c&&c.cmpb&&c.dat false
theorem Ry {t:TypeId} {c:Ty} (h:Oy P t c=true):V1 P t c.enc c.eqT:=by
 unfold Oy at h;simp only [Bool.and_eq_true] at h;obtain⟨⟨h1,h2⟩,h3⟩:=h;have dv:∀ {Z:Nat->Prop} {w:World} {x:c.T} {v:Value},DV Z w (c.enc x) v->∃ cs,v=D3 c.agg cs∧D.rep Z w (c.enc x) cs:=fun {Z w x v} ⟨cs,e,r⟩=>⟨cs,by rw [e,Ty.O4 h3],r⟩;have er:=Ks 12 t c h1;refine⟨fun {Z Z' w w1 w2 a b va vb} ha hb => ?_,fun {kd} hu {Z Z' w1 w2 a b va vb} ha hb => ?_,fun {Z w w1 a va} em ha => ?_,fun {Z Z' w w1 w2 a v1 v2} ha hb => ?_,λa b => ?_⟩
 ·obtain⟨c1,rfl,r1⟩:=dv ha;obtain⟨c2,rfl,r2⟩:=dv hb;exact er Op.maxDepth (by decide) w w1 w2 Z Z' a b c1 c2 r1 r2
 ·unfold eqB at h1;split at h1
  ·rename_i hu';exact R3.now hu (R3.bool (P:=P) (h:=0) a b hu') ha hb
  ·rename_i hu';exact R3.now hu (R3.int (P:=P) (h:=0) a b hu') ha hb
  ·rename_i hu';exact R3.now hu (R3.str (P:=P) (h:=0) a b hu') ha hb
  ·rename_i b' fs hu';cases hu.symm.trans hu';right;simp [Instr.sameNow]
  ·rename_i m e m' et hu';cases hu.symm.trans hu';right;simp [Instr.sameNow]
  ·cases h1
 ·obtain⟨c1,rfl,r1⟩:=dv ha;exact Rx 12 t c h1 10000 (by decide) em w w1 Z a c1 r1
 ·have only:∀ {c1 c2:List Value},D.rep Z w1 (c.enc a) c1->D.rep Z' w2 (c.enc a) c2->c1=c2∧∀ v∈c1,X7 v=true:=fun {c1 c2} r1 r2 =>
   Be h2 h3 a (by rw [Ty.F2 h3];exact⟨c1,[],by simp,r1,rfl⟩) (by rw [Ty.F2 h3];exact⟨c2,[],by simp,r2,rfl⟩)
  exact B75 (λr1 r2=>only r1 r2) ha hb
 ·rw [Ty.Y2 h2];refine⟨λe=>by rw [e],λe => ?_⟩;exact B2c h2 h3 e
end Go.Vc
namespace Go.Vc
open Go
section
variable {A:Alg}
def Tm (P:Program) (S:St A) (d:Nat) (t:TypeId):Option (Stp A) :=
 match P.underlying t with
 | some (.map kt et)=>match V3 P 12 kt,V3 P 12 et with
  | some kc,some vc=>bif Nat.ble 1000 S.nx then some (.pure [⟨.list (.st (.pr kc vc)),A.lit (.st (.pr kc vc)) []⟩] { nf:=[S.nx],wt:=[(d,.mref S.nx)],wo:=[(S.nx,some (.map kc vc S.nl))] }) else none
  | _,_=>none
 | _=>none
def Tn (P:Program) (S:St A) (d:Nat) (t:TypeId) (x i:Operand):Option (Stp A) :=
 match P.underlying t,S.op x,S.op i with
 | some (.map kt et),some (.mref n),some ti=>match A1 S.O n with
  | some (some (.map kc vc j))=>match S.asD ti kc with
   | some k=>bif Oy P kt kc&&vc.dat false&&zB P et (.d (vc.enc vc.zero))&&(P.underlying kt).isSome then
     some (.pure [⟨vc,A.mget kc vc (S.lv (.list (.st (.pr kc vc))) j) k⟩] { nt:=rdk x++rdk i,no:=[n],wt:=[(d,.d vc S.nl)] })
    else none
   | none=>none
  | _=>none
 | _,_,_=>none
def A0w (P:Program) (S:St A) (t:TypeId) (x i y:Operand):Option (Stp A) :=
 match P.underlying t,S.op x,S.op i,S.op y with
 | some (.map kt et),some (.mref n),some ti,some ty=>match A1 S.O n with
  | some (some (.map kc vc j))=>match S.asD ti kc,S.asD ty vc with
   | some k,some v=>bif Oy P kt kc&&vc.dat false&&(P.underlying kt).isSome then
     some (.pure [⟨.list (.st (.pr kc vc)),A.mput kc vc (S.lv (.list (.st (.pr kc vc))) j) k v⟩] { nt:=rdk x++(rdk i++rdk y),no:=[n],wo:=[(n,some (.map kc vc S.nl))] })
    else none
   | _,_=>none
  | _=>none
 | _,_,_,_=>none
end
section
variable {P:Program} {B:D5} {ops:Array Oper} {S:St typ} {d:Nat} {x y i:Operand} {ty t:TypeId} {pos:String} {af:Array Edge}
variable {s:Stp typ}
theorem Lw [Hid] {kc vc:Ty} {z:(Ty.list (.st (.pr kc vc))).T} {l:List (Lf typ)}:(TOb.map kc vc S.nl).o (S.push (⟨.list (.st (.pr kc vc)),z⟩ :: l)) = .blk (Y3 (D4 kc.enc vc.enc z)) :=
 congrArg (λl:List (kc.T×vc.T)=>Ob.blk (Y3 (D4 kc.enc vc.enc l))) (F6 (c:=.list (.st (.pr kc vc))))
theorem Vg {c:Ty} (h:Oy P t c=true):c.dat false=true:=by
 unfold Oy at h;simp only [Bool.and_eq_true] at h;exact h.2
theorem Yu [Hid] (hB:B.ok) (hN:d<B.N) (hf:A1 S.O S.nx=none) (h:Tm P S d t=some s):s.Ok P B ops ⟨some d,.makeMap t none,ty,pos,af,none⟩ S:=by
 unfold Tm at h;split at h
 ·rename_i kt et hu;split at h
  ·rename_i kc vc hk hv;cases hb:Nat.ble 1000 S.nx with
   | false=>rw [hb] at h;cases h
   | true =>
    rw [hb] at h;cases h;exact⟨_,OpJ.mkmapQ hB (Nat.le_of_ble_eq_true hb) hN,rfl,rfl,rF1 hf,rfl,by simp only [oOf,List.map,Option.map,Lw];rfl,rfl,rfl,rfl⟩
  ·cases h
 ·cases h
theorem Yv [Hid] (hN:d<B.N) (h:Tn P S d t x i=some s):s.Ok P B ops ⟨some d,.lookup t x i false,ty,pos,af,none⟩ S:=by
 unfold Tn at h;split at h
 ·rename_i kt et n ti hu hx hi;split at h
  ·rename_i kc vc j hn;split at h
   ·rename_i k hk;cases hb:Oy P kt kc&&vc.dat false&&zB P et (.d (vc.enc vc.zero))&&(P.underlying kt).isSome with
    | false=>rw [hb] at h;cases h
    | true =>
     rw [hb] at h;cases h;simp only [Bool.and_eq_true] at hb;obtain⟨⟨⟨b1,b2⟩,b3⟩,b4⟩:=hb;obtain⟨kd,hkd⟩:=Option.isSome_iff_exists.1 b4;refine Wy hx hi hn E5 λnt nt' hx hi => ?_;have hi:=Opd.co (W9 hk (Vg b1)) hi;exact OpJ.mlookQ (l:=S.lv (.list (.st (.pr kc vc))) j) hu hkd (Ry b1) (Dc b3) hN hx hi
   ·cases h
  ·cases h
 ·cases h
theorem A4o [Hid] (h:A0w P S t x i y=some s):s.Ok P B ops ⟨none,.mapUpdate t x i y,ty,pos,af,none⟩ S:=by
 unfold A0w at h;split at h
 ·rename_i kt et n ti ty' hu hx hi hy;split at h
  ·rename_i kc vc j hn;split at h
   ·rename_i k v hk hv;cases hb:Oy P kt kc&&vc.dat false&&(P.underlying kt).isSome with
    | false=>rw [hb] at h;cases h
    | true =>
     rw [hb] at h;cases h;simp only [Bool.and_eq_true] at hb;obtain⟨⟨b1,b2⟩,b4⟩:=hb;obtain⟨kd,hkd⟩:=Option.isSome_iff_exists.1 b4;have hi2:=Opd.co (W9 hk (Vg b1)) (B6 hi).1;have hy2:=Opd.co (W9 hv b2) (B6 hy).1;refine⟨_,OpJ.mputQ (l:=S.lv (.list (.st (.pr kc vc))) j) (k:=k) (v:=v) hu hkd (Ry b1) (B6 hx).1 hi2 hy2,E4 (B6 hx).2 (E4 (B6 hi).2 (B6 hy).2),?_,rfl,rfl,?_,by rw [D6,D6,C5,C5,C5],rfl,rfl⟩
     ·simp only [rO,rO',F4,hn,Option.map_some];rfl
     ·simp only [oOf,List.map,Option.map,Lw]
   ·cases h
  ·cases h
 ·cases h
end
end Go.Vc
namespace Go.Vc
open Go
section
variable {P:Program} {B:D5} {ops:Array Oper} {d:Nat} {x y i:Operand} {ty:TypeId} {pos:String} {af:Array Edge} {nt nt' nl nh:List (Nat×V)}
theorem OpJ.indexG {t e:TypeId} {g nm len sz:Nat} {ag:Bool} (hu:P.underlying t=some (.array len e)) (ht:TyS P e sz ag) {es:List D} {k:IntKind} {n:Int} {el:D} (h0:0<=n) (he:es[n.toNat]? = some el) (hN:d<B.N)
  (hi:Opd i (.d (.int k n)) nt') :
  OpJ P B ops ⟨some d,.indexAddr t (.global g) i,ty,pos,af,none⟩ { nt:=nt',no:=[(nm,.know (L2 g (.arr len sz es)))],wt:=[(d,.dptr el)] } :=
 OpJ.run rfl rfl hN rfl λenv ob a w σ Z sm hne=>by
  have hob:=hne.2.1 (nm,.know (L2 g (.arr len sz es))) (by simp);obtain⟨_,hz,xs,hc,⟨hlen,hszs,hr⟩,_⟩:=sm.obj nm _ hob;have hin:=E6 (hi B env ob a w σ Z sm hne.1);have hlt:n.toNat<es.length:=(List.getElem?_eq_some_iff.1 he).1;obtain⟨c1,c2,c3,g1,g2,g3,g4,_⟩:=I5 (Z:=Z) (w:=w) hr he;have hc1:c1.length=n.toNat*sz:=by rw [g2,D.szL_all _ (λx hx=>hszs x (List.mem_of_mem_take hx)),List.length_take,Nat.min_eq_left (by omega)]
  refine⟨.pointer (some ⟨g,0+n.toNat*sz,none⟩),w,σ,Z,?_,by rw [C9 _ rfl];exact sm,?_⟩
  ·have hb:n<(len:Int):=by omega
   simp [execOp,show a.eval (.global g) = .pointer (some ⟨g,0,none⟩) from rfl,hin,Instr.indexAt,asIntOf,run_underlying hu,Instr.sureAddr,h0,hb,ht.run_size,K6]
  ·rw [C9 _ rfl];refine Fv hz (xs:=c2) (λj v hj => ?_) g4;have hlt:j<c2.length:=(List.getElem?_eq_some_iff.1 hj).1;have:=hc (n.toNat*sz+j) v (by rw [g1,List.append_assoc,List.getElem?_append_right (by omega),show n.toNat*sz+j-c1.length=j from by omega,List.getElem?_append_left hlt];exact hj);rwa [<- Nat.add_assoc] at this
theorem OpJ.cutG {t e g nm m sz:Nat} {ag:Bool} (hu:P.underlying t=some (.array m e)) (ht:TyS P e sz ag) (hm:m<=9223372036854775807) {es:List D} (hN:d<B.N) :
  OpJ P B ops ⟨some d,.slice t (.global g) none none none,ty,pos,af,none⟩ { no:=[(nm,.know (L2 g (.arr m sz es)))],wt:=[(d,.d (.list sz es))] } :=
 OpJ.run rfl rfl hN rfl λenv ob a w σ Z sm hne=>by
  have hob:=hne.2.1 (nm,.know (L2 g (.arr m sz es))) (by simp);obtain⟨_,hz,xs,hc,⟨hel0,hs,hr0⟩,_⟩:=sm.obj nm _ hob;have hre:=D.repE_of_repL es g 0 xs hr0 hs hc;have hr:=Vf (P:=P) w t e m hu ht ⟨g,0,none⟩ none none 0 m (.inl ⟨rfl,rfl⟩) (.inl ⟨rfl,rfl⟩) (Nat.zero_le _) (Nat.le_refl _);refine⟨.slice (some (if m=0 then ⟨g,0,none⟩ else (⟨g,0,none⟩:Addr).add (0*sz))) (m-0) (m-0),w,σ,Z,by simp only [execOp,Act.eval,Sem.run_bind,Option.map_none,hr,Result.andThen_ok];rfl,by rw [C9 _ rfl];exact sm,?_⟩;rw [C9 _ rfl];refine⟨⟨_,_,by rw [hel0];rfl,by rw [hel0];exact Nat.le_refl _,hm,?_⟩,.inr rfl⟩
  by_cases hnil:es=[]
  ·exact .inl hnil
  ·right;have hpos:0<es.length:=List.length_pos_iff.2 hnil;refine⟨g,0,?_,hz,hs,hre⟩;rw [if_neg (by omega)];simp [K6]
end
section
variable {A:Alg}
def Qx (g:Nat):List (Nat×Option TOb)->Option Nat
 | []=>none
 | (n,some (.glob g' _ _)) :: l=>bif Nat.beq g' g then some n else Qx g l
 | _ :: l=>Qx g l
def A0x (P:Program) (S:St A) (d:Nat):Op->Option (Stp A)
 | .load t (.global g)=>match Qx g S.O with
  | some n=>match A1 S.O n with
   | some (some (.glob g' c j))=>bif Nat.beq g' g&&tyB P t c.sz c.agg&&c.dat false&&(c.agg || Nat.beq c.sz 1) then some (.pure [] { no:=[n],wt:=[(d,.d c j)] }) else none
   | _=>none
  | none=>none
 | .indexAddr t (.global g) y=>match Qx g S.O,P.underlying t,S.anyI y with
  | some n,some (.array m e),some ⟨k,a⟩=>match A1 S.O n with
   | some (some (.glob g' (.arr m' c) j))=>bif Nat.beq g' g&&Nat.beq m m'&&tyB P e c.sz c.agg&&c.dat false then
     some (.bind c (A.aidx m' c k (S.lv (.arr m' c) j) a) (λq=>[⟨c,q⟩]) { nt:=rdk y,no:=[n],wt:=[(d,.dptr c S.nl)] })
    else none
   | _=>none
  | _,_,_=>none
 | .slice t (.global g) none none none=>match Qx g S.O,P.underlying t with
  | some n,some (.array m e)=>match A1 S.O n with
   | some (some (.glob g' (.arr m' c) j))=>bif Nat.beq g' g&&Nat.beq m m'&&tyB P e c.sz c.agg&&c.dat false&&Nat.ble m 1000000 then
     some (.pure [⟨.list c,A.arrL m' c (S.lv (.arr m' c) j)⟩] { no:=[n],wt:=[(d,.d (.list c) S.nl)] })
    else none
   | _=>none
  | _,_=>none
 | _=>none
end
section
variable {P:Program} {B:D5} {ops:Array Oper} {S:St typ} {d:Nat} {x y:Operand} {ty t:TypeId} {pos:String} {af:Array Edge}
theorem A4p [Hid] {op:Op} {s:Stp typ} (hN:d<B.N) (hS:S.ok) (h:A0x P S d op=some s):s.Ok P B ops ⟨some d,op,ty,pos,af,none⟩ S:=by
 unfold A0x at h;split at h
 ·rename_i t g;split at h
  ·rename_i n _;split at h
   ·rename_i g' c j hn;cases hb:Nat.beq g' g&&tyB P t c.sz c.agg&&c.dat false&&(c.agg || Nat.beq c.sz 1) with
    | false=>rw [hb] at h;cases h
    | true =>
     rw [hb] at h;cases h;simp only [Bool.and_eq_true,Bool.or_eq_true] at hb;obtain⟨⟨⟨b1,b2⟩,b3⟩,b4⟩:=hb;have b1:=Nat.eq_of_beq_eq_true b1;subst b1;have hj:j<S.nl:=TV.C2 (F5 (x:=.glob g' c j) hS.2 hn);refine⟨_,OpJ.loadGD (c.enc (S.lv c j)) (F0 b2) (Ty.D7 b3 _) (Ty.O4 b3 _) (λe => ?_) hN,rfl,?_,rfl,?_,rfl,rfl,rfl,rfl⟩
     ·rcases b4 with b4 | b4
      ·rw [b4] at e;cases e
      ·exact Nat.eq_of_beq_eq_true b4
     ·simp only [rO,rO',F4,hn,Option.map_some];rfl
     ·simp only [eOf,List.map];have e:S.push [] c j=S.lv c j:=D8 c j hj;show [(d,V.d (c.enc (S.lv c j)))]=[(d,V.d (c.enc (S.push [] c j)))];rw [e]
   ·cases h
  ·cases h
 ·rename_i t g y;split at h
  ·rename_i n m e k a _ hu hy;split at h
   ·rename_i g' m' c j hn;cases hb:Nat.beq g' g&&Nat.beq m m'&&tyB P e c.sz c.agg&&c.dat false with
    | false=>rw [hb] at h;cases h
    | true =>
     rw [hb] at h;cases h;simp only [Bool.and_eq_true] at hb;obtain⟨⟨⟨b1,b2⟩,b3⟩,b4⟩:=hb;have b1:=Nat.eq_of_beq_eq_true b1;subst b1;have b2:=Nat.eq_of_beq_eq_true b2;subst b2;obtain⟨tx,e1,e2⟩:=E7 hy;intro q hq;have hq:=P8 hq;have hy2:=(B6 e1).1;rw [e2] at hy2;refine⟨_,OpJ.indexG (nm:=n) hu (F0 b3) (es:=List.map c.enc (S.lv (.arr m c) j)) (el:=c.enc q) hq.1 (by rw [List.getElem?_map,hq.2];rfl) hN hy2,e2 ▸ (B6 e1).2,?_,rfl,?_,rfl,C5 _ _,rfl,rfl⟩
     ·simp only [rO,rO',F4,hn,Option.map_some];rfl
     ·simp only [eOf,List.map,TV.v,TV.vs,List.headD,F6]
   ·cases h
  ·cases h
 ·rename_i t g;split at h
  ·rename_i n m e _ hu;split at h
   ·rename_i g' m' c j hn;cases hb:Nat.beq g' g&&Nat.beq m m'&&tyB P e c.sz c.agg&&c.dat false&&Nat.ble m 1000000 with
    | false=>rw [hb] at h;cases h
    | true =>
     rw [hb] at h;cases h;simp only [Bool.and_eq_true] at hb;obtain⟨⟨⟨⟨b1,b2⟩,b3⟩,b4⟩,b5⟩:=hb;have b1:=Nat.eq_of_beq_eq_true b1;subst b1;have b2:=Nat.eq_of_beq_eq_true b2;subst b2;have b5:=Nat.le_of_ble_eq_true b5;refine⟨_,OpJ.cutG (nm:=n) hu (F0 b3) (by omega) (es:=List.map c.enc (S.lv (.arr m c) j)) hN,rfl,?_,rfl,?_,rfl,rfl,rfl,rfl⟩
     ·simp only [rO,rO',F4,hn,Option.map_some];rfl
     ·simp only [eOf,List.map,E5];rfl
   ·cases h
  ·cases h
 ·cases h
end
end Go.Vc
namespace Go.Vc
open Go
section
variable {P:Program} {B:D5} {env:Env} {ob:Obs} {a:Act} {w:World} {σ:Nat->Option Nat} {Z:Nat->Prop}
theorem Sim.trash (s:Sim B env ob a w σ Z) {n b:Nat} (hl:live ob n) (hb:σ n=some b) {w':World} (same:∀ k,k≠b->w'.heap[k]? = w.heap[k]?) (hsz:w'.heap.size=w.heap.size)
  (hos:w'.os=w.os) (ht:w'.tape=w.tape) (ho:w'.output=w.output):Sim B env (B9 ob n none) a w' σ Z:=by
 have lv:∀ m,live (B9 ob n none) m->m≠n∧live ob m:=λm h=>by
  rw [C1] at h
  by_cases e:m=n
  ·rw [if_pos e] at h;simp at h
  ·rw [if_neg e] at h;exact⟨e,h⟩
 have other:∀ m k,live (B9 ob n none) m->σ m=some k->k≠b:=λm k hm hk e=>(lv m hm).1 (s.inj m n b (lv m hm).2 hl (e ▸ hk) hb);have hx:Ext Z Z w w':=⟨λ_ h=>h,λk h=>same k λe=>(s.blk n b hl hb).1 (e ▸ h)⟩;have m:K4 ob (B9 ob n none) σ σ Z Z w w':=⟨hx,λm h=>S4 h,λm _ h=>⟨(lv m h).2,rfl⟩,λm k _ hm hk=>by simp only [World.shape?,same k (other m k hm hk)]⟩;refine { s with env:=?_,obj:=?_,inj:=λp q k hp hq=>s.inj p q k (lv p hp).2 (lv q hq).2,blk:=λp k hp=>s.blk p k (lv p hp).2,zlt:=λk h=>by rw [hsz];exact s.zlt k h,pin:=λp k hpin hp=>s.pin p k hpin (lv p hp).2,shp:=?_,os:=hos.trans s.os,tape:=ht.trans s.tape,output:=ho.trans s.output,size:=by rw [hsz];exact s.size,block:=?_,foot:=?_ }
 ·intro k x hk;obtain⟨v,h1,h2⟩:=s.env k x hk;exact⟨v,h1,h2.move m⟩
 ·intro q o hq;have hqn:q≠n:=(lv q ⟨o,hq⟩).1;have hq':ob q=some (some o):=by simpa only [B9,if_neg hqn] using hq
  exact Ob.rep_move m (s.obj q o hq') rfl λk hk=>same k (other q k ⟨o,hq⟩ hk)
 ·intro p k hpin hp;rw [<- s.shp p k hpin (lv p hp).2];simp only [World.shape?,same k (other p k hp (s.pin p _ hpin (lv p hp).2))]
 ·intro k hk hk';have hne:k≠b:=λe=>by
   subst e;rcases(s.blk n k hl hb).2 with h | h
   ·omega
   ·exact hk' h
  rw [same k hne];exact s.block k hk hk'
 ·refine s.foot.move hx (by rw [hsz];exact Nat.le_refl _) (λq r h=>⟨?_,rfl⟩) (λq k hq hk=>same k (other q k ?_ hk)) (λk _ _ hk=>same k λe=>hk n hl (e ▸ hb)) (λ_ h => .inl h) λq k hq hk => .inr ⟨q,(lv q hq).2,hk⟩
  ·unfold B9 at h
   by_cases e:q=n
   ·rw [if_pos e] at h;simp at h
   ·rwa [if_neg e] at h
  ·obtain⟨r,hr⟩:=hq;exact⟨_,hr⟩
theorem De:∀ (l:List Int) (a:Addr) (acc:ByteArray),(∀ j x,l[j]? = some x->w.cell? (a.add j)=some (.int .u8 x)) ->
  (loadBytes a acc l.length).run P w = .ok ⟨acc.data++(En l).toArray⟩ w
 | [],a,acc,_=>by simp [loadBytes,En]
 | x :: l,a,acc,h=>by
  have h0:w.cell? a=some (.int .u8 x):=by
   have:=h 0 x rfl;simpa [Addr.add] using this
  have ih:=De l (a.add 1) (acc.push x.toNat.toUInt8) (λj y hy=>by
   have:=h (j+1) y (by simpa using hy);have e:(a.add 1).add j=a.add (j+1):=by
    unfold Addr.add
    by_cases hj:j=0
    ·subst hj;simp
    ·simp [hj];omega
   rw [e];exact this)
  simp only [List.length_cons,loadBytes,Sem.run_bind,run_load,h0,Result.andThen];rw [ih];congr 1;apply ByteArray.ext;simp [ByteArray.push,En,Nat.toUInt8]
theorem Gj (pt it ty e:TypeId) (hp:P.underlying pt=some (.pointer e)) (hc:P.cellsOf e=1) (g cells:Nat) (hsh:w.shape? g=some (e,cells)) (l:List Int) (h0:l≠[]) (hn:l.length<=cells) (h63:l.length<=9223372036854775807)
  (hcell:∀ j x,l[j]? = some x->w.cell? ((⟨g,0,none⟩:Addr).add j)=some (.int .u8 x)) :
  (Builtin.unsafeString_ #[pt,it] ty #[.pointer (some ⟨g,0,none⟩),.int .i64 l.length]).run P w = .ok (.string ⟨(En l).toArray⟩) (w.freeze ⟨g,0,none⟩ l.length):=by
 have hl:l.length≠0:=by simpa using h0
 have hlb:=De (P:=P) (w:=w) l ⟨g,0,none⟩ .empty hcell;have hlies:=Lib.liesAt_bytes (P:=P) hc (cells / P.cellsOf e) l.length (by rw [hc];simpa using hn);have h63':¬ (9223372036854775807:Int)<(l.length:Int):=by omega
 obtain⟨e1,e2,e3,hdef⟩:∃ e1 e2 e3:String,Builtin.unsafeString_ #[pt,it] ty #[.pointer (some ⟨g,0,none⟩),.int .i64 l.length] =
   (do
    let n <- asInt (.int .i64 l.length)
    if n<0 then runtimePanic (.error e1)
    if n > IntKind.i64.max then unsupported (.unsafePointer e2)
    if n=0 then pure (.string .empty)
    else if <- variablesAt ⟨g,0,none⟩ (<- elemOf pt) n.toNat then do
     let s <- loadBytes ⟨g,0,none⟩ .empty n.toNat
     freeze ⟨g,0,none⟩ n.toNat
     pure (.string s)
    else unsupported (.unsafePointer e3)):=⟨_,_,_,rfl⟩
 rw [hdef];have hmax:IntKind.i64.max=9223372036854775807:=rfl;have hneg:¬ (l.length:Int)<0:=by omega
 simp [asInt,asIntOf,hmax,h63',hneg,hl,variablesAt,hsh,elemOf,run_underlying hp,hlies,hlb]
end
section
variable {P:Program} {B:D5} {ops:Array Oper} {d:Nat} {x y:Operand} {ty:TypeId} {pos:String} {af:Array Edge} {nt nt':List (Nat×V)}
theorem OpJ.sliceData {t:TypeId} {nm sz len:Nat} {obj:Ob} (h0:len≠0) (hN:d<B.N) (hx:Opd x (.sref nm sz 0 len) nt) :
  OpJ P B ops ⟨some d,.call { callee:=.builtin .unsafeSliceData,args:=#[x],argTypes:=#[t] },ty,pos,af,none⟩ { nt,no:=[(nm,obj)],wt:=[(d,.ptr nm 0 [])] } :=
 OpJ.run rfl rfl hN rfl λenv ob a w σ Z sm hne=>by
  have hl:live ob nm:=⟨obj,hne.2.1 (nm,obj) (by simp)⟩;obtain⟨ad,c,hv,hc,_,hs⟩:=O9 (hx B env ob a w σ Z sm hne.1) hl;rcases hs with ⟨_,_,_,rfl⟩ | ⟨b,e,hb,ha,_,_⟩
  ·omega
  ·rcases ha with rfl | rfl
   ·omega
   ·refine⟨.pointer (some ⟨b,0*sz,none⟩),w,σ,Z,?_,by rw [C9 _ rfl];exact sm,?_⟩
    ·simp only [execOp,resolve,invoke,builtin,List.map_toArray,List.map_cons,List.map_nil,hv,Sem.run_bind,Sem.run_pure,Result.andThen_ok,Lib.run_unsafeSliceData_row w #[t] ty ⟨b,0*sz,none⟩ len c (by omega)]
    ·rw [C9 _ rfl,Nat.zero_mul];exact Ev hl hb
theorem OpJ.unsafeStr {pt it e:TypeId} {nm:Nat} {xs:List Int} (hp:P.underlying pt=some (.pointer e)) (hc:P.cellsOf e=1) (h0:xs≠[]) (hN:d<B.N) (hx:Opd x (.ptr nm 0 []) nt) (hy:Opd y (.d (.int .i64 (xs.length:Int))) nt') :
  OpJ P B ops ⟨some d,.call { callee:=.builtin .unsafeString,args:=#[x,y],argTypes:=#[pt,it] },ty,pos,af,none⟩ { nt:=nt++nt',no:=[(nm,.row e 1 (xs.map (eI .u8)))],wt:=[(d,.d (.str (En xs)))],wo:=[(nm,none)] } :=
 OpJ.run rfl rfl hN rfl λenv ob a w σ Z sm hne=>by
  obtain⟨g1,g2⟩:=B4 hne.1;have hob:=hne.2.1 (nm,.row e 1 (xs.map (eI .u8))) (by simp);have hl:live ob nm:=⟨_,hob⟩;obtain⟨b,hb,hv⟩:=L5 (hx B env ob a w σ Z sm g1) hl;have hy:=E6 (hy B env ob a w σ Z sm g2);obtain⟨_,_,v,cs,hown,hr,hvb,_⟩:=sm.obj nm _ hob;rw [List.length_map] at hown;rcases hown.2 with ⟨rfl,h⟩ | ⟨g,cap,cur,rfl,_,hh,hn,hcap,hcs,htake⟩
  ·exact absurd (List.eq_nil_of_length_eq_zero h) h0
  ·obtain rfl:g=b:=Option.some.inj ((show some g=σ nm from hvb).trans hb);have hm:maxLen<=9223372036854775807:=by decide
   have hcell:∀ j x,xs[j]? = some x->w.cell? ((⟨g,0,none⟩:Addr).add j)=some (.int .u8 x):=λj x hj=>by
    obtain⟨c1,c2,c3,k1,k2,k3,k4,_⟩:=I5 (Z:=Z) (w:=w) hr (show(xs.map (eI .u8))[j]? = some (.int .u8 x) by rw [List.getElem?_map,hj];rfl);have k4:c2=[.int .u8 x]:=k4;have hj':=(List.getElem?_eq_some_iff.1 hj).1;have e1:c1.length=j:=by
     rw [k2,D.szL_all (sz:=1) _ (λy hy=>by obtain⟨z,_,rfl⟩:=List.mem_map.1 (List.mem_of_mem_take hy);rfl),List.length_take,List.length_map];omega
    rw [K6,Nat.zero_add,cell_of_row w g j cur e (0,0) hh,<- Array.getElem?_toList];have e2:(cur.toList.take (xs.length*1))[j]? = cs[j]? :=by rw [htake]
    rw [List.getElem?_take,if_pos (by omega)] at e2;rw [e2,k1,k4,List.append_assoc,List.getElem?_append_right (by omega),e1,Nat.sub_self];rfl
   refine⟨.string ⟨(En xs).toArray⟩,w.freeze ⟨g,0,none⟩ xs.length,σ,Z,?_,?_,?_⟩
   ·simp only [execOp,resolve,invoke,builtin,List.map_toArray,List.map_cons,List.map_nil,hv,hy,Sem.run_bind,Sem.run_pure,Result.andThen_ok,Gj pt it ty e hp hc g (cap*1) (by simp [World.shape?,hh,hcs]) xs h0 (by omega) (by omega) hcell]
   ·rw [F1 _ rfl];refine sm.trash hl hb (λk hk => ?_) ?_ ?_ ?_ ?_
    all_goals
     unfold World.freeze;split
    all_goals first
     | rfl
     | (simp only [Array.getElem?_modify];rw [if_neg (by omega)])
     | simp
   ·exact Cq _
end
section
variable {A:Alg}
def To (S:St A) (d:Nat) (x:Operand):Option (Stp A):=match S.op x with
 | some (.sref n c j)=>match A1 S.O n with
  | some (some _)=>some (.chk (A.ne0 .i64 (A.len c (S.lv (.list c) j))) [] { nt:=rdk x,no:=[n],wt:=[(d,.ptr n 0 [])] })
  | _=>none
 | _=>none
def A0y (P:Program) (S:St A) (d:Nat) (pt:TypeId) (x y:Operand):Option (Stp A):=match S.op x,S.anyI y,P.underlying pt with
 | some (.ptr n 0 []),some ⟨.i64,a⟩,some (.pointer e)=>match A1 S.O n with
  | some (some (.row e' (.int .u8) j))=>bif Nat.beq e e'&&Nat.beq (P.cellsOf e) 1 then
    some (.chk (A.and (A.ne0 .i64 a) (A.cmp .eql .i64 a (A.len (.int .u8) (S.lv (.list (.int .u8)) j)))) [⟨.str,A.b2s (S.lv (.list (.int .u8)) j)⟩] { nt:=rdk x++rdk y,no:=[n],wt:=[(d,.d .str S.nl)],wo:=[(n,none)] })
   else none
  | _=>none
 | _,_,_=>none
end
section
variable {P:Program} {B:D5} {ops:Array Oper} {S:St typ} {d:Nat} {x y:Operand} {ty t:TypeId} {pos:String} {af:Array Edge}
variable {s:Stp typ}
theorem Yw [Hid] (hN:d<B.N) (h:To S d x=some s):s.Ok P B ops ⟨some d,.call { callee:=.builtin .unsafeSliceData,args:=#[x],argTypes:=#[t] },ty,pos,af,none⟩ S:=by
 unfold To at h;split at h
 ·rename_i n c j hx;split at h
  ·rename_i b hn;cases h;intro hq;have hq:List.length (S.lv (.list c) j)≠0:=λe=>by
    have hq:bne (((List.length (S.lv (.list c) j):Nat):Int)) 0=true:=hq;rw [e] at hq;simp at hq
   exact Kk hx hn rfl λnt hx=>OpJ.sliceData hq hN hx
  ·cases h
 ·cases h
theorem A4q [Hid] {pt it:TypeId} (hN:d<B.N) (h:A0y P S d pt x y=some s):s.Ok P B ops ⟨some d,.call { callee:=.builtin .unsafeString,args:=#[x,y],argTypes:=#[pt,it] },ty,pos,af,none⟩ S:=by
 unfold A0y at h;split at h
 ·rename_i n a e hx hy hp;split at h
  ·rename_i e' j hn;cases hb:Nat.beq e e'&&Nat.beq (P.cellsOf e) 1 with
   | false=>rw [hb] at h;cases h
   | true =>
    rw [hb] at h;cases h;simp only [Bool.and_eq_true] at hb;have b1:=Nat.eq_of_beq_eq_true hb.1;subst b1;have b2:=Nat.eq_of_beq_eq_true hb.2;intro hq;obtain⟨q1,q2⟩:=H8 hq;have q2:a=((List.length (S.lv (.list (.int .u8)) j):Nat):Int):=eq_of_beq q2;have q1:S.lv (.list (.int .u8)) j≠[]:=λe=>by
     have q1:bne a 0=true:=q1;rw [q2,e] at q1;simp at q1
    obtain⟨tx,e1,e2⟩:=E7 hy;have hy2:=(B6 e1).1;rw [e2,q2] at hy2;refine⟨_,OpJ.unsafeStr (nm:=n) hp b2 q1 hN (B6 hx).1 hy2,E4 (B6 hx).2 (by rw [<- q2,<- e2];exact(B6 e1).2),?_,rfl,?_,?_,by rw [D6,C5,C5],rfl,rfl⟩
    ·simp only [rO,rO',F4,hn,Option.map_some];rfl
    ·simp only [eOf,List.map,E5];rfl
    ·rfl
  ·cases h
 ·cases h
end
end Go.Vc
