/- A row that is taken from at its front and appended to at its end (a queue): what stands before its front is of no account: it is some list or other. An element of an array's value. -/
import Derived.Test.YtkcpjnjneehecaaVcMD
import Derived.Test.YtkcpjnjneehecaaVcYB
import Derived.Test.YtkcpjnjneehecaaVcZ
import Derived.Test.YtkcpjnjneehecaaVcN
namespace Go.Vc
open Go
variable {P:Program} {B:Base} {ops:Array Oper} {E:EL} {O:OL} {Q:Exit→EL→OL→Prop}
-- loops and joins whose states bear such a list
theorem AWp.cutG {M T G:Type} {c:Code} {rest:M→Option T} {body:(M→Option T)→Option T} {r:T} (h:jn rest body=some r) (pe:G→M→EL) (po:G→M→OL) (hj:∀ g m,rest m=some r→Into B Q (pe g m) (po g m))
  (hb:∀ j:M→Option T,(∀ g m,j m=some r→Into B Q (pe g m) (po g m))→body j=some r→AWp P B c Q E O):AWp P B c Q E O:=hb rest hj h
theorem AWp.loopG {S X G:Type} {c:Code} (tb:S→Option (X⊕S)) (pe:G→S→EL) (po:G→S→OL) (RX:X→Exit→EL→OL→Prop) {s:S} {x:X} (hl:Vc.loop tb s=some x)
  (hround:∀ g s y,tb s=some y→AWp P B c (fun e E' O'=>match y with | .inr s'=>e = .normal∧∃ g',Mat B E' O' (pe g' s') (po g' s') | .inl x=>e ≠ .normal∧RX x e E' O') (pe g s) (po g s))
  (hq:∀ e E' O',RX x e E' O'→Q e E' O') (g:G) (m:Mat B E O (pe g s) (po g s)):AWp P B (.loop c) Q E O:=by
 refine AWp.ghost m ?_
 obtain⟨n,hn⟩:=loop_some hl
 rw [iter_eq] at hn
 refine AWp.mono (Q:=RX x) (fun a w σ Z sm => ?_) hq
 refine wp_rds n a w ?_
 clear hl m
 induction n generalizing s a w σ Z g with
 | zero=>cases hn
 | succ n ih =>
  simp only at hn
  obtain⟨y,hy,hn⟩:=Option.bind_eq_some_iff.1 hn
  refine wp_mono (hround g s y hy a w σ Z sm) fun e a' w' ⟨E',O',σ',Z',q,s'⟩ => ?_
  cases y with
  | inr t =>
   obtain⟨rfl,g',hm⟩:=q
   obtain⟨σ'',Z'',s''⟩:=hm a' w' σ' Z' s'
   exact ih g' hn a' w' σ'' Z'' s''
  | inl x' =>
   obtain⟨h1,h2⟩:=q
   simp only [Option.some.injEq] at hn
   subst hn
   cases e with
   | normal=>exact absurd rfl h1
   | _=>exact⟨E',O',σ',Z',h2,s'⟩
-- a region operation by operation, what follows as a premise
def LW (P:Program) (B:Base) (ops:Array Oper) (os:List Oper) (Q:Exit→EL→OL→Prop) (E:EL) (O:OL):Prop :=
 ∀ (a:Act) (w:World) (σ:Nat→Option Nat) (Z:Nat→Prop),Sim B (look E) (look O) a w σ Z→wpList P ops (fun e a' w'=>∃ E' O' σ' Z',Q e E' O'∧Sim B (look E') (look O') a' w' σ' Z') os a w
theorem LW.nil (h:Q .normal E O):LW P B ops [] Q E O:=fun _ _ σ Z s=>⟨E,O,σ,Z,h,s⟩
theorem LW.needs {α:Eff} (e:(rE E α.nt,rO O α.no,rF O α.nf)=(rE' α.nt,rO' α.no,rF' α.nf)):α.needs (look E) (look O):=by
 simp only [Prod.mk.injEq,rE_eq,rE'_eq,rO_eq,rO'_eq,rF_eq,rF'_eq] at e
 exact⟨map_eq_mem e.1,map_eq_mem e.2.1,map_eq_mem e.2.2⟩
theorem LW.cons {o:Oper} {os:List Oper} {α:Eff} (h:OpJ P B ops o α) (e:(rE E α.nt,rO O α.no,rF O α.nf)=(rE' α.nt,rO' α.no,rF' α.nf)) (k:LW P B ops os Q (ap α.wt E) (ap α.wo O)):LW P B ops (o :: os) Q E O:=fun a w σ Z s=>by
 rw [ap_eq,ap_eq] at k
 refine wpList_step fun K hK => ?_
 exact h _ _ _ a w σ Z K s (LW.needs e) fun a' w' σ' Z' s'=>hK _ _ (k a' w' σ' Z' (by rw [app_env,app_obs];exact s'))
theorem AWp.ofLW {id:Nat} {l:List Oper} (h:LW P B l.toArray l Q E O):AWp P B (.region id l.toArray false) Q E O:=fun a w σ Z s=>wp_region_lit (h a w σ Z s)
-- the front
theorem idx_que {α:Type} {pre q:List α} {i:Int} {x:α} (h:idx q i=some x):(pre++q)[pre.length+i.toNat]? = some x:=by
 rw [List.getElem?_append_right (by omega),show pre.length+i.toNat-pre.length=i.toNat from by omega]
 exact(idx_some h).2
section
variable {d:Nat} {x y:Operand} {ty:TypeId} {pos:String} {af:Array Edge} {nt nt' nl:List (Nat×V)}
theorem OpJ.cutQ {α:Type} {t e:TypeId} {sz:Nat} {ag:Bool} (hu:P.underlying t=some (.slice e)) (ht:TyS P e sz ag) {nm:Nat} (f:α→D) {pre q:List α} {o:Operand} {k:IntKind} {n:Int} (ho:Opd o (.d (.int k n)) nl) (h0:0≤n)
  (h1:n.toNat≤q.length) (hN:d<B.N) (hx:Opd x (.sref nm sz pre.length q.length) nt) :
  OpJ P B ops ⟨some d,.slice t x (some o) none none,ty,pos,af,none⟩
   { nt:=nt++(nl++[]),no:=[(nm,.row e sz ((pre++q).map f))],wt:=[(d,.sref nm sz (pre++q.take n.toNat).length (q.drop n.toNat).length)],wo:=[(nm,some (.row e sz (((pre++q.take n.toNat)++q.drop n.toNat).map f)))] } :=
 OpJ.shrS (OpJ.cutS hu ht (obj:=.row e sz ((pre++q).map f)) (l:=n.toNat) (h:=q.length) (.inr ⟨o,k,n,rfl,ho,h0,rfl⟩) (.inl ⟨rfl,rfl,rfl⟩) h1 (Nat.le_refl _)
  (by rw [List.length_append,List.length_take,Nat.min_eq_left h1]) (by rw [List.length_drop]) hN hx) (Nat.le_refl _) (by rw [List.take_length,List.append_assoc,List.take_append_drop])
end
theorem repL_cut {Z:Nat→Prop} {w:World}:∀ {xs ys:List D} {cs:List Value},D.repL Z w (xs++ys) cs→∃ c1 c2,cs=c1++c2∧D.repL Z w xs c1∧D.repL Z w ys c2
 | [],_,cs,h=>⟨[],cs,rfl,rfl,h⟩
 | _ :: xs,ys,_,h=>by
  obtain⟨c1,c2,h1,h2,h3⟩:=h
  obtain⟨d1,d2,g1,g2,g3⟩:=repL_cut (xs:=xs) (ys:=ys) h3
  exact⟨c1++d1,d2,by rw [h1,g1,List.append_assoc],⟨c1,d1,rfl,h2,g2⟩,g3⟩
section
variable {d:Nat} {x y i:Operand} {ty:TypeId} {pos:String} {af:Array Edge} {nt nt':List (Nat×V)}
theorem OpJ.indexV {t e:TypeId} {len sz:Nat} {ag:Bool} (hu:P.underlying t=some (.array len e)) (ht:TyS P e sz ag) {es:List D} {k:IntKind} {n:Int} {el:D} (hel:el.isAgg=ag∧el.sz=sz) (h0:0≤n) (he:es[n.toNat]? = some el) (hN:d<B.N)
  (hx:Opd x (.d (.arr len sz es)) nt) (hi:Opd i (.d (.int k n)) nt') :
  OpJ P B ops ⟨some d,.index t x i,ty,pos,af,none⟩ { nt:=nt++nt',wt:=[(d,.d el)] } :=
 OpJ.pure rfl rfl hN fun env ob a w σ Z sm hne=>by
  obtain⟨h1,h2⟩:=needs_app hne
  obtain⟨cs,hv,hlen,hszs,hr⟩:=rep_valOf (hx B env ob a w σ Z sm h1)
  have hv:a.eval x = .agg cs.toArray:=hv
  have hin:=rep_int (hi B env ob a w σ Z sm h2)
  have hlt:n.toNat<es.length:=(List.getElem?_eq_some_iff.1 he).1
  obtain⟨c1,c2,c3,g1,g2,g3,g4,_⟩:=repL_split (Z:=Z) (w:=w) hr he
  have hc1:c1.length=n.toNat*sz:=by rw [g2,D.szL_all _ (fun x hx=>hszs x (List.mem_of_mem_take hx)),List.length_take,Nat.min_eq_left (by omega)]
  have hs1:ag=false→sz=1:=fun h=>by rw [← hel.2];exact D.sz_one (by rw [hel.1,h])
  have hp:=run_part_at ht w c1 c2 c3 (g3.trans hel.2) hs1 hc1
  refine⟨valOf ag c2,?_,RepT.of (RepV.of_cells (x:=.d el) g4 g3 (D.rep_one el c2 g4) ag hel.1) rfl⟩
  have hb:n<(len:Int):=by omega
  rw [g1] at hv
  simp only [execOp,hv,hin,Instr.index,asIntOf,Sem.run_bind,Sem.run_pure,Result.andThen_ok,run_underlying hu,if_pos (show 0≤n∧n<(len:Int) from⟨h0,hb⟩),ht.run_size,hp]
theorem LW.app {α:Type} {t e sz bytes:Nat} {os:List Oper} (hB:B.ok) (hu:P.underlying t=some (.slice e)) (he:TyE P e sz bytes) {n:Nat} (nm:Nat) (f:α→D) {pre q ys:List α} (hc:decide ((q++ys).length≤LIM)=true) (hN:d<B.N)
  (hx:Opd x (.sref n sz pre.length q.length) nt) (hy:Opd y (.d (.list sz (ys.map f))) nt') (e1:(rE E (nt++nt'),rO O [(n,.row e sz ((pre++q).map f))],rF O [nm])=(rE' (nt++nt'),rO' [(n,.row e sz ((pre++q).map f))],rF' [nm]))
  (k:∀ pre':List α,LW P B ops os Q ((d,.sref nm sz pre'.length (q++ys).length) :: E) ((nm,some (.row e sz ((pre'++(q++ys)).map f))) :: (n,none) :: O))
  (hnm:1000≤nm:=by decide) (hys:ys≠[]:=by simp) (hfs:∀ x,(f x).sz=sz:=by intro;rfl) (hb:Nat.ble bytes 32768=true:=by decide) :
  LW P B ops (⟨some d,.call { callee:=.builtin .append,args:=#[x,y],argTypes:=#[t,t] },ty,pos,af,none⟩ :: os) Q E O:=fun a w σ Z sm=>by
 have hne:=LW.needs (α:={ nt:=nt++nt',no:=[(n,.row e sz ((pre++q).map f))],nf:=[nm] }) e1
 obtain⟨h1,h2⟩:=needs_app hne.1
 have hob:look O n=some (some (.row e sz ((pre++q).map f))):=hne.2.1 (n,_) (by simp)
 have hl:live (look O) n:=⟨_,hob⟩
 have hfr:look O nm=none:=hne.2.2 nm (by simp)
 have hnn:nm≠n:=fun h=>by subst h;exact hl.used hfr
 have hro:=sm.obj n _ hob
 have hxr:=hx B _ _ a w σ Z sm h1
 obtain⟨ad,c,hv,hq1,hq2,hd⟩:=rep_sref hxr hl
 obtain⟨adY,cY,hyv,_,_,hyd⟩:=rep_list (hy B _ _ a w σ Z sm h2)
 obtain⟨ti,z,hi,hz,hs,hby,hzs⟩:=he.get
 have hsz:=he.pos
 have hall:∀ l:List α,∀ x∈l.map f,x.sz=sz:=fun l x hx=>by
  obtain⟨y,_,rfl⟩:=List.mem_map.1 hx
  exact hfs y
 obtain⟨bY,oY,haY,hzY,_,hreY⟩:=hyd.resolve_left (fun h=>hys (List.map_eq_nil_iff.1 h))
 obtain⟨news,g1,g2⟩:=D.repL_of_repE (ys.map f) bY oY hreY (hall ys)
 have gl:=D.repL_len _ news g1
 rw [D.szL_all _ (hall ys),List.length_map] at gl
 have g2':∀ j u,news[j]? = some u→w.cell? ((⟨bY,oY,none⟩:Addr).add j)=some u:=fun j u hj=>by rw [add_at];exact g2 j u hj
 have g3:=D.repL_one _ news g1
 have hlim:q.length+ys.length≤LIM:=by have:=of_decide_eq_true hc;rwa [List.length_append] at this
 have hlim':q.length+ys.length≤4294967296:=hlim
 have hbl:bytes≤32768:=Nat.le_of_ble_eq_true hb
 have hbytes:(q.length+ys.length)*bytes≤140737488355328:=Nat.le_trans (Nat.mul_le_mul hlim' hbl) (by decide)
 have hyl:(ys.map f).length=ys.length:=List.length_map ..
 -- the run
 have hrun:∃ (v':Value) (w':World) (pre':List α) (vo:Value) (cs:List Value),(Builtin.append_ #[t,t] ty #[a.eval x,a.eval y]).run P w = .ok v' w'∧w.grownBy w' (σ n) ∧
   w'.ownsRow 0 e sz vo (pre'++(q++ys)).length cs∧D.repL Z w ((pre'++(q++ys)).map f) cs∧(vo.ownBlock=σ n∨vo.ownBlock=some w.heap.size)∧(∃ b,vo.ownBlock=some b) ∧
   ∃ cc,v' = .slice (match vo.ownBlock with | some b=>some ⟨b,pre'.length*sz,none⟩ | none=>none) (q++ys).length cc∧(q++ys).length≤cc∧cc≤9223372036854775807∧∀ b,vo.ownBlock=some b→w'.shape? b=some (e,(pre'.length+cc)*sz):=by
  rw [hv,hyv,haY,hyl]
  have hq0:0<ys.length:=List.length_pos_iff.2 hys
  by_cases hroom:q.length+ys.length≤c
  ·
   have hcp:0<c:=by omega
   rcases hd with ⟨_,_,_,h0⟩ | ⟨b,e',hσ,had,hsh,_⟩
   ·omega
   have had:=had.resolve_left (by omega)
   obtain⟨cur,cap,xs,m1,m2,m3,m4,m5,m6,m7⟩:=Ob.row_cells hro hσ
   have hcap:cap=pre.length+c:=by
    simp only [World.shape?,m1,Option.some.injEq,Prod.mk.injEq] at hsh
    have:=hsh.2
    rw [m2] at this
    exact Nat.eq_of_mul_eq_mul_right hsz this
   have he':e'=e:=by
    simp only [World.shape?,m1,Option.some.injEq,Prod.mk.injEq] at hsh
    exact hsh.1.symm
   subst he'
   have hel:((pre++q).map f).length=pre.length+q.length:=by rw [List.length_map,List.length_append]
   rw [hel] at m3 m6 m7
   have hfit:(pre.length+q.length)*sz+news.length≤cur.size:=by
    rw [gl,m2,hcap,← Nat.add_mul]
    exact Nat.mul_le_mul_right _ (by omega)
   have hst:=run_storeCells_at P b ((pre.length+q.length)*sz) e' news 0 cur w m1 (by simpa using hfit) g3
   have hfc:=run_firstCells_some (P:=P) w ti.size ys.length ⟨bY,oY,none⟩ ys.length cY news (by rw [gl,hs]) g2'
   simp only [Nat.add_zero] at hst
   refine⟨_,w.setRow b (cur.toList.take ((pre.length+q.length)*sz)++news++cur.toList.drop ((pre.length+q.length)*sz+news.length)).toArray,pre,.slice (some ⟨b,0,none⟩) (pre.length+(q.length+ys.length)) cap,xs++news,?_,⟨rfl,rfl,rfl,by simp,fun k _ hk=>setRow_other w b k _ (fun e=>hk (by rw [hσ,e]))⟩,⟨?_,.inr ⟨b,cap,_,by simp,Nat.zero_le _,setRow_heap w b cur _ e' _ m1,?_,?_,?_,?_⟩⟩,?_,.inl ?_,⟨b,rfl⟩,c,rfl,?_,hq2,?_⟩
   ·subst had
    rw [hs] at hfc
    simp [Builtin.append_,run_underlying hu,sizeOf,typeInfo,hi,Builtin.lenOf,hroom,hfc,Addr.add_lit,hs,← Nat.add_mul,hst,Value.ownBlock]
   ·rw [List.length_append,m6,gl,← Nat.add_mul];simp [Nat.add_assoc]
   ·simp;omega
   ·simpa [maxLen] using m4
   ·simp only [List.size_toArray,List.length_append,List.length_take,List.length_drop,Array.length_toList]
    omega
   ·rw [m7]
    simp only [List.toList_toArray]
    rw [show(pre++(q++ys)).length*sz=(xs++news).length from by rw [List.length_append (as:=xs),m6,gl,← Nat.add_mul];simp [Nat.add_assoc]]
    exact List.take_left
   ·rw [show(pre++(q++ys)).map f=(pre++q).map f++ys.map f from by simp]
    exact D.repL_append _ _ _ _ m5 g1
   ·exact hσ.symm
   ·rw [List.length_append];exact hroom
   ·intro b' hb'
    have:b=b':=by simpa [Value.ownBlock] using hb'
    subst this
    simp only [World.shape?,setRow_heap w b cur _ e' _ m1,Option.some.injEq,Prod.mk.injEq,true_and,List.size_toArray,List.length_append,List.length_take,List.length_drop,Array.length_toList]
    rw [← hcap,← m2]
    omega
  ·
   have hold:∃ olds:List Value,olds.length=q.length*sz∧D.repL Z w (q.map f) olds∧(∀ A,ad=some A→∀ j u,olds[j]? = some u→w.cell? (A.add j)=some u)∧(ad=none→q.length=0∧c=0):=by
    rcases hd with ⟨_,had,_,h0⟩ | ⟨b,e',hσ,had,hsh,_⟩
    ·have:q=[]:=List.eq_nil_of_length_eq_zero (by omega)
     subst this
     exact⟨[],by simp,rfl,fun _ _ j u h=>by simp at h,fun _=>⟨rfl,h0⟩⟩
    ·by_cases h0:c=0
     ·have:q=[]:=List.eq_nil_of_length_eq_zero (by omega)
      subst this
      exact⟨[],by simp,rfl,fun _ _ j u h=>by simp at h,fun _=>⟨rfl,h0⟩⟩
     ·have had:=had.resolve_left h0
      obtain⟨cur,cap,xs,m1,m2,m3,m4,m5,m6,m7⟩:=Ob.row_cells hro hσ
      rw [List.map_append] at m5
      obtain⟨c1,c2,k1,k2,k3⟩:=repL_cut m5
      have l1:=D.repL_len _ c1 k2
      have l2:=D.repL_len _ c2 k3
      rw [D.szL_all _ (hall pre),List.length_map] at l1
      rw [D.szL_all _ (hall q),List.length_map] at l2
      refine⟨c2,l2,k3,fun A hA j u hj => ?_,fun h=>by rw [had] at h;cases h⟩
      rw [had] at hA
      cases hA
      have hjl:j<c2.length:=(List.getElem?_eq_some_iff.1 hj).1
      rw [Addr.add_lit,cell_of_row w b (pre.length*sz+j) cur e' (0,0) (by
       have he':e'=e:=by
        simp only [World.shape?,m1,Option.some.injEq,Prod.mk.injEq] at hsh
        exact hsh.1.symm
       rw [he'];exact m1),← Array.getElem?_toList]
      have hx:xs[pre.length*sz+j]? = some u:=by
       rw [k1,List.getElem?_append_right (by omega),show pre.length*sz+j-c1.length=j from by omega]
       exact hj
      rw [← m7,List.getElem?_take] at hx
      split at hx
      ·exact hx
      ·cases hx
   obtain⟨olds,o1,o2,o3,o4⟩:=hold
   have h63:q.length+ys.length≤maxLen:=by simp only [maxLen];omega
   have hge:=grownCap_ge w (q.length+ys.length) c e
   have hcm:grownCap w (q.length+ys.length) c e≤maxLen:=grownCap_le_maxLen w (q.length+ys.length) c e h63
   have hsize:(olds.toArray++news.toArray++Builtin.zeroCells z.cells (grownCap w (q.length+ys.length) c e-(q.length+ys.length))).size=grownCap w (q.length+ys.length) c e*sz:=by
    simp only [Array.size_append,List.size_toArray,size_zeroCells,hzs,o1,gl,← Nat.add_mul]
    congr 1
    omega
   have hnew:(w.drew.alloc (.cells (olds.toArray++news.toArray++Builtin.zeroCells z.cells (grownCap w (q.length+ys.length) c e-(q.length+ys.length))) e)).heap[w.heap.size]? = some (.cells (olds.toArray++news.toArray++Builtin.zeroCells z.cells (grownCap w (q.length+ys.length) c e-(q.length+ys.length))) e (0,0)):=heap_alloc_new w.drew _
   refine⟨.slice (some ⟨w.heap.size,0,none⟩) (q.length+ys.length) (grownCap w (q.length+ys.length) c e),w.drew.alloc (.cells (olds.toArray++news.toArray++Builtin.zeroCells z.cells (grownCap w (q.length+ys.length) c e-(q.length+ys.length))) e),[],
    .slice (some ⟨w.heap.size,0,none⟩) (q.length+ys.length) (grownCap w (q.length+ys.length) c e),olds++news,?_,⟨rfl,rfl,rfl,by simp,fun k hk _=>_root_.Go.heap_alloc_old w.drew _ hk⟩,⟨?_,.inr ⟨w.heap.size,_,_,by simp,Nat.zero_le _,hnew,?_,hcm,hsize,?_⟩⟩,?_,.inr rfl,⟨_,rfl⟩,grownCap w (q.length+ys.length) c e,?_,?_,?_,?_⟩
   ·cases hA:ad with
    | none =>
     obtain⟨p1,p2⟩:=o4 hA
     have:olds=[]:=List.eq_nil_of_length_eq_zero (by rw [o1,p1];simp)
     subst this
     have hr:=run_append_nil (P:=P) w t ty e ti z hu hi hz ⟨bY,oY,none⟩ ys.length cY news (by rw [gl,hs]) g2' hq0 (by omega) (by rw [hby];have:=hbytes;rw [p1,Nat.zero_add] at this;omega)
     rw [p1,p2]
     simpa using hr
    | some A =>
     exact run_append_grow (P:=P) w t ty e ti z hu hi hz A q.length c olds (by rw [o1,hs]) (o3 A hA) ⟨bY,oY,none⟩ ys.length cY news (by rw [gl,hs]) g2' (by omega) (by omega) (by rw [hby];exact growslice_fits (by omega) hbytes)
   ·rw [List.length_append,o1,gl,← Nat.add_mul];simp
   ·simp;omega
   ·have hln:([]++(q++ys)).length*sz=(olds++news).length:=by rw [List.length_append (as:=olds),o1,gl,← Nat.add_mul];simp
    rw [hln]
    simp only [Array.toList_append]
    exact List.take_left
   ·rw [List.nil_append,List.map_append]
    exact D.repL_append _ _ _ _ o2 g1
   ·simp [Value.ownBlock]
   ·simp;omega
   ·simpa [maxLen] using hcm
   ·intro b' hb'
    have:w.heap.size=b':=by simpa [Value.ownBlock] using hb'
    subst this
    have:∀ cur:Array Value,(w.drew.alloc (.cells cur e)).heap[w.heap.size]? = some (.cells cur e (0,0))→cur.size=grownCap w (q.length+ys.length) c e*sz→(w.drew.alloc (.cells cur e)).shape? w.heap.size=some (e,grownCap w (q.length+ys.length) c e*sz):=fun cur h1 h2=>by
     simp only [World.shape?,h1,h2]
    rw [this _ hnew hsize]
    simp
 obtain⟨v',w',pre',vo,cs,hr,hgr,hown,hrep,hat,⟨bo,hbo⟩,cc,hv',hcc1,hcc2,hshp⟩:=hrun
 have sk:=sm.kill n
 have hlv:∀ m,live (updO (look O) n none) m→m≠n∧live (look O) m:=fun m hm=>by
  rw [live_upd] at hm
  by_cases hmn:m=n
  ·rw [if_pos hmn] at hm;simp at hm
  ·rw [if_neg hmn] at hm;exact⟨hmn,hm⟩
 have s2:=sk.rowNew hB (nm:=nm) (by simp [updO,hnn,hfr]) hnm hgr
  (fun m b hm hb e=>(hlv m hm).1 (sm.inj m n b (hlv m hm).2 hl hb e.symm))
  (fun b hb=>sm.blk n b hl hb) hat
  (o:=.row e sz ((pre'++(q++ys)).map f)) fun ob' σ' m hσ=>by
   refine⟨hsz,hall _,vo,cs,by rw [List.length_map];exact hown,D.repL_ext m.ext _ _ hrep,hσ.symm,fun hn=>by rw [hσ,hbo] at hn;cases hn⟩
 have hval:RepT (updO (updO (look O) n none) nm (some (.row e sz ((pre'++(q++ys)).map f)))) (updS σ nm vo.ownBlock) Z w' v' (.sref nm sz pre'.length (q++ys).length):=by
  have hlv':live (updO (updO (look O) n none) nm (some (.row e sz ((pre'++(q++ys)).map f)))) nm:=by rw [live_upd];simp
  rw [hv',hbo]
  exact⟨⟨hlv'.used,fun _=>⟨_,cc,rfl,hcc1,hcc2,.inr ⟨bo,e,by simp [updS,hbo],.inr rfl,hshp bo hbo,fun h=>by rw [h];simp⟩⟩⟩,.inr rfl⟩
 refine wpList_step fun K hK => ?_
 rw [if_pos (by simp [Region.wanted])]
 unfold Oper.wp
 have hex:(execOp a.eval ⟨some d,.call { callee:=.builtin .append,args:=#[x,y],argTypes:=#[t,t] },ty,pos,af,none⟩).run P w = .ok (.value v') w':=by
  simp only [execOp,resolve,invoke,builtin,Sem.run_bind,Sem.run_pure,Result.andThen_ok,List.map_toArray,List.map_cons,List.map_nil,hr]
 rw [hex,Oper.upon_value]
 have e2:look ((nm,some (Ob.row e sz ((pre'++(q++ys)).map f))) :: (n,none) :: O)=updO (updO (look O) n none) nm (some (.row e sz ((pre'++(q++ys)).map f))):=by
  rw [← eff_obs2 { wo:=[(nm,some (Ob.row e sz ((pre'++(q++ys)).map f))),(n,none)] } rfl,← app_obs];rfl
 have e3:look ((d,V.sref nm sz pre'.length (q++ys).length) :: E)=upd (look E) d (.sref nm sz pre'.length (q++ys).length):=by
  rw [← eff_env1 { wt:=[(d,V.sref nm sz pre'.length (q++ys).length)] } rfl,← app_env];rfl
 exact hK _ _ (k pre' _ w' _ Z (by rw [e2,e3];exact s2.put hN hval))
end
end Go.Vc
