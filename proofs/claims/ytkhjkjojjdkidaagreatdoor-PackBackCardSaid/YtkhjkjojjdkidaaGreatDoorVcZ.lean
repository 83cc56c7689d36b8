/- A row that is cut off at its end, in place. -/
import Derived.Test.YtkhjkjojjdkidaaGreatDoorVcT
namespace Go.Vc
open Go
variable {P:Program} {B:Base} {ops:Array Oper}
theorem B1j {w:World} {b0 e sz n k:Nat} {v:Value} {xs:List Value} (hk:k≤n) (h:w.ownsRow b0 e sz v n xs) :
  ∃ v',w.ownsRow b0 e sz v' k (xs.take (k*sz))∧v'.ownBlock=v.ownBlock:=by
 obtain⟨hl,h⟩:=h
 have hm:k*sz≤n*sz:=Nat.mul_le_mul_right sz hk
 rcases h with ⟨rfl,rfl⟩ | ⟨g,cap,cur,rfl,hb,hg,hc1,hc2,hs,ht⟩
 ·refine⟨.slice none 0 0,⟨by rw [List.length_take,hl];omega,.inl ⟨rfl,by omega⟩⟩,rfl⟩
 ·refine⟨.slice (some ⟨g,0,none⟩) k cap,⟨by rw [List.length_take,hl];omega,.inr ⟨g,cap,cur,rfl,hb,hg,by omega,hc2,hs,?_⟩⟩,rfl⟩
  rw [← ht,List.take_take,Nat.min_eq_left hm]
theorem B0w {Z:Nat→Prop} {w:World} {sz:Nat}:∀ (es:List D) (cs:List Value) (k:Nat),(∀ x∈es,x.sz=sz)→D.repL Z w es cs→D.repL Z w (es.take k) (cs.take (k*sz))
 | [],cs,k,_,h=>by cases h;simp [D.repL]
 | e :: es,cs,0,_,h=>by simp [D.repL]
 | e :: es,cs,k+1,hs,h=>by
  obtain⟨c1,c2,rfl,h2,h3⟩:=h
  have hl:=D.rep_len e c1 h2
  rw [hs e (List.mem_cons_self ..)] at hl
  refine⟨c1,c2.take (k*sz),?_,h2,B0w es c2 k (fun x hx=>hs x (List.mem_cons_of_mem _ hx)) h3⟩
  rw [Nat.succ_mul,List.take_append,hl,show k*sz+sz-sz=k*sz from by omega,List.take_of_length_le (by omega)]
theorem Sim.shrink {env:Env} {ob:Obs} {a:Act} {w:World} {σ:Nat→Option Nat} {Z:Nat→Prop} (s:Sim B env ob a w σ Z) {n e sz k:Nat} {es:List D} (hn:ob n=some (some (.row e sz es))) (hk:k≤es.length) :
  Sim B env (updO ob n (some (.row e sz (es.take k)))) a w σ Z:=by
 have hl:∀ m,live (updO ob n (some (.row e sz (es.take k)))) m→live ob m:=fun m ⟨o,h⟩=>by
  by_cases hm:m=n
  ·subst hm;exact⟨_,hn⟩
  ·exact⟨o,by simpa [updO,hm] using h⟩
 have m:Move ob (updO ob n (some (.row e sz (es.take k)))) σ σ Z Z w w:=⟨Ext.refl _ _,fun m h=>by
   by_cases hm:m=n
   ·subst hm;simp [used,updO]
   ·simpa [used,updO,hm] using h,fun m _ h=>⟨hl m h,rfl⟩,fun _ _ _ _ _=>rfl⟩
 refine { s with env:=?_,obj:=?_,inj:=fun i j b hi hj=>s.inj i j b (hl i hi) (hl j hj),blk:=fun i b hi=>s.blk i b (hl i hi),pin:=fun i b hp hi=>s.pin i b hp (hl i hi),shp:=fun i b hp hi=>s.shp i b hp (hl i hi),foot:=s.foot.same hl fun r h=>by cases h }
 ·intro t x ht
  obtain⟨v,h1,h2⟩:=s.env t x ht
  exact⟨v,h1,h2.move m⟩
 ·intro i o hi
  by_cases hin:i=n
  ·subst hin
   have ho:o = .row e sz (es.take k):=by simpa [updO] using hi.symm
   subst ho
   obtain⟨h0,h1,v,xs,h2,h3,h4,h5⟩:=s.obj i _ hn
   obtain⟨v',k1,k2⟩:=B1j hk h2
   refine⟨h0,fun x hx=>h1 x (List.mem_of_mem_take hx),v',xs.take (k*sz),?_,B0w es xs k h1 h3,k2.trans h4,fun h=>by rw [h5 h];simp⟩
   rw [List.length_take,Nat.min_eq_left hk];exact k1
  ·have ho:ob i=some (some o):=by simpa [updO,hin] using hi
   have h:=s.obj i o ho
   cases o with
   | box t x =>
    obtain⟨b,cs,h1,h2,h3,h4,h5⟩:=h
    exact⟨b,cs,h1,h2,h3,h4,V.rep_move m x _ h5⟩
   | row e' sz' es'=>exact h
   | blk sp=>exact h
   | know k=>exact h
   | reg r=>exact h
theorem OpJ.shrS {o:Oper} {nt:List (Nat×V)} {d nm e sz k:Nat} {es es':List D} {v:V} (h:OpJ P B ops o { nt,no:=[(nm,.row e sz es)],wt:=[(d,v)] }) (hk:k≤es.length) (he:es'=es.take k) :
  OpJ P B ops o { nt,no:=[(nm,.row e sz es)],wt:=[(d,v)],wo:=[(nm,some (.row e sz es'))] }:=by
 subst he
 intro Q env ob a w σ Z K s hn hK
 refine h Q env ob a w σ Z K s hn fun a' w' σ' Z' s' => ?_
 have hob:ob nm=some (some (.row e sz es)):=hn.2.1 (nm,.row e sz es) (by simp)
 rw [M4 (d:=d) (v:=v) _ rfl,G0 _ rfl] at s'
 refine hK a' w' σ' Z' ?_
 rw [M4 (d:=d) (v:=v) _ rfl]
 have:=s'.shrink hob hk
 have e2:Eff.obs { nt,no:=[(nm,.row e sz es)],wt:=[(d,v)],wo:=[(nm,some (.row e sz (es.take k)))] } ob=updO ob nm (some (.row e sz (es.take k))):=by
  funext i;unfold updO Eff.obs
  simp only [A6r]
  by_cases hi:i=nm
  ·simp [hi]
  ·simp [hi,Ne.symm hi]
 rw [e2];exact this
section
variable {d:Nat} {x y i:Operand} {ty:TypeId} {pos:String} {af:Array Edge}
theorem OpJ.buildSliceR {t e:TypeId} {sz:Nat} {ag:Bool} {z:D} (hu:P.underlying t=some (.slice e)) (ht:TyS P e sz ag) (hz:TyZ P e (.d z)) (hzs:z.sz=sz) (h0:0<sz) {n:Nat} (hn24:n*sz≤16777216) (hB:B.ok) {nm:Nat} (hnm:1000≤nm) {len:Nat} (hlen2:len=n)
  {parts:List (Nat×Operand)} {vs:List (Nat×V)} {nt:List (Nat×V)} (hx:Opds parts vs nt) (hok:okParts ((List.range n).map fun i=>(i*sz,sz)) (List.replicate n (.d z)) vs=true)
  {es:List D} (hes:es.map V.d=setParts (List.replicate n (.d z)) vs) (hel:es.length=n) (hsz:D.szs sz es=true) (hpn:∀ p∈parts,p.1<n) (hN:d<B.N) :
  OpJ P B ops ⟨some d,.buildSlice t n parts.toArray,ty,pos,af,none⟩ { nt,nf:=[nm],wt:=[(d,.sref nm sz 0 len)],wo:=[(nm,some (.row e sz es))] } :=
 OpJ.run rfl rfl hN rfl fun env ob a w σ Z sm hne=>by
  have hzp:z.plain=true:=hz.plain
  have hrep:=D.rep_enc (Z:=Z) (w:=w) z hzp
  have hzl:=D.rep_len z _ hrep
  have hcells:(valOf (V.d z).isAgg (V.d z).enc).cells=z.enc.toArray:=by
   have:=hz.cells
   rw [← Array.toArray_toList (xs:=(valOf (V.d z).isAgg (V.d z).enc).cells),this];rfl
  have hzr:=X6 (Z:=Z) (w:=w) hzp n
  have hV:V.repS ob σ Z w (List.replicate n (.d z)) (List.replicate n z.enc).flatten:=by
   have:=A4n (ob:=ob) (σ:=σ) hzr
   simpa using this
  have hone:∀ u∈(List.replicate n z.enc).flatten,u.oneCell'=true:=D.repL_one _ _ hzr
  obtain⟨cells',k1,k2,k3⟩:=A34 sm hx hne.1 (cells:=(List.replicate n z.enc).flatten.toArray) hok (by simpa using hV) (by
   have:=D.repL_len _ _ hzr
   rw [List.size_toArray,this]
   rw [← A49];simp) (by simpa using hone)
  rw [← hes] at k2
  have hL:=A56 k2
  have hlen:cells'.size=n*sz:=by
   have:=D.repL_len _ _ hL
   rw [D.szL_all es (D.szs_spec hsz),hel] at this
   rw [← Array.length_toList];exact this
  have hfr:ob nm=none:=hne.2.2 nm (by simp)
  have hown:(w.alloc (.cells cells' e)).ownsRow 0 e sz (.slice (some ⟨w.heap.size,0,none⟩) n n) es.length cells'.toList:=by
   refine⟨by rw [Array.length_toList,hlen,hel],.inr ⟨w.heap.size,n,_,by rw [hel],Nat.zero_le _,heap_alloc_new w _,by omega,?_,hlen,?_⟩⟩
   ·have:n≤n*sz:=Nat.le_mul_of_pos_right _ h0
    simp only [maxLen];omega
   ·rw [hel,List.take_of_length_le (by rw [Array.length_toList,hlen];omega)]
  have s2:=sm.newObj hB hfr hnm (o:=.row e sz es) (c:=.cells cells' e) fun ob' σ' m hσ =>
   ⟨h0,D.szs_spec hsz,_,_,hown,D.repL_ext m.ext _ _ hL,by rw [hσ];rfl,fun hn=>by rw [hσ] at hn;cases hn⟩
  rw [H7 _ rfl]
  refine⟨.slice (some ⟨w.heap.size,0,none⟩) n n,w.alloc (.cells cells' e),updS σ nm (some w.heap.size),Z,?_,s2,?_⟩
  ·have hmap:(parts.toArray.map fun p=>(p.1,a.eval p.2)).toList=parts.map fun p=>(p.1,a.eval p.2):=by simp
   have hpl:∀ (l:List (Nat×Value)),(∀ p∈l,p.1<n)→∀ (c:Array Value),Instr.fill (fun i=>some (i*sz,sz)) c l=Instr.fill (fun i=>((List.range n).map fun i=>(i*sz,sz))[i]?) c l:=by
    intro l
    induction l with
    | nil=>intro _ c;rfl
    | cons p l ih =>
     intro hp c
     obtain⟨k,v⟩:=p
     have hk:k<n:=hp (k,v) (by simp)
     have hk2:((List.range n).map fun i=>(i*sz,sz))[k]? = some (k*sz,sz):=by simp [List.getElem?_map,List.getElem?_range hk]
     simp only [Instr.fill,hk2]
     split
     ·rfl
     ·exact ih (fun p hp'=>hp p (by simp [hp'])) _
   have h1:(parts.map fun p=>(p.1,a.eval p.2)).all (fun p=>decide (p.1<n))=true:=by
    rw [List.all_eq_true]
    intro q hq
    obtain⟨p,hp,rfl⟩:=List.mem_map.1 hq
    simpa using hpn p hp
   have hfill:=hpl (parts.map fun p=>(p.1,a.eval p.2)) (fun p hp=>by simpa using List.all_eq_true.1 h1 p hp) ((List.replicate n z.enc).flatten.toArray)
   rw [k1] at hfill
   have hzero:((Array.range (n*sz)).map fun i=>z.enc.toArray[i % z.enc.toArray.size]!)=(List.replicate n z.enc).flatten.toArray:=by
    have:=S8 z.enc (by omega) n
    rw [← this,hzl,hzs]
    apply Array.toList_inj.1
    simp
   by_cases hnz:n*sz=0
   ·have hn0:n=0:=by rcases Nat.mul_eq_zero.1 hnz with h | h<;>omega
    subst hn0
    have hnil:parts=[]:=by
     cases parts with
     | nil=>rfl
     | cons p _=>have:=hpn p (by simp);omega
    subst hnil
    have hc':cells' = #[]:=by simpa [Instr.fill] using k1.symm
    have hr0:(Array.map (fun _=>(default:Value)) (Array.range 0)) = #[]:=by apply Array.toList_inj.1;simp
    simp [execOp,Instr.buildSlice,run_underlying hu,ht.run_size,hc',Instr.fill,A0o,hr0]
   ·simp only [execOp,Instr.buildSlice,Sem.run_bind,run_underlying hu,Result.andThen_ok,ht.run_size,Sem.run_pure,hmap]
    rw [if_neg (show ¬ n*sz > 2 ^ 24 from by omega),if_neg hnz]
    simp only [Sem.run_bind,hz.run,Result.andThen_ok,Sem.run_pure,hcells,hzero,hfill,A0o]
  ·have:=R0 (ob:=updO ob nm (some (.row e sz es))) (σ:=updS σ nm (some w.heap.size)) (Z:=Z) (nm:=nm) (by rw [D6];simp) hown (by simp [updS,Value.ownBlock])
   rw [hlen2]
   simpa [hel] using this
end
theorem B61 {ob:Obs} {σ:Nat→Option Nat} {Z:Nat→Prop} {w:World} {n e sz b:Nat} {es:List D} (h:Ob.rep ob σ Z w n (.row e sz es)) (hb:σ n=some b):D.repE Z w sz es b 0:=by
 obtain⟨h0,h1,v,xs,⟨hl,h2⟩,h3,h4,h5⟩:=h
 rcases h2 with ⟨rfl,_⟩ | ⟨g,cap,cur,rfl,_,hg,_,_,_,ht⟩
 ·rw [hb] at h4;cases h4
 ·have hgb:g=b:=by rw [hb] at h4;exact Option.some.inj h4
  subst hgb
  refine D.repE_of_repL es g 0 xs h3 h1 fun j v hj => ?_
  rw [Nat.zero_add,cell_of_row _ g j cur e (0,0) hg]
  rw [← ht] at hj
  have:=(List.getElem?_eq_some_iff.1 hj).1
  rw [List.getElem?_take_of_lt (by rw [List.length_take] at this;omega)] at hj
  simpa using hj
section
variable {d:Nat} {x y i:Operand} {ty:TypeId} {pos:String} {af:Array Edge} {nt nt':List (Nat×V)}
theorem OpJ.appendNS {t e sz bytes:Nat} (hB:B.ok) (hu:P.underlying t=some (.slice e)) (he:TyE P e sz bytes) {nm:Nat} (hnm:1000≤nm) {ys es:List D} {nm2 off len2 e2:Nat} (hk:off+len2≤es.length) (hcut:ys=(es.drop off).take len2) {len:Nat} (hlen:len=ys.length)
  (hys:∀ y∈ys,y.sz=sz) (hb:ys.length*bytes≤140737488355328) (hb63:ys.length≤9223372036854775807) (hN:d<B.N) (hx:Opd x .nils nt) (hy:Opd y (.sref nm2 sz off len2) nt') :
  OpJ P B ops ⟨some d,.call { callee:=.builtin .append,args:=#[x,y],argTypes:=#[t,t] },ty,pos,af,none⟩
   { nt:=nt++nt',no:=[(nm2,.row e2 sz es)],nf:=[nm],wt:=[(d,.sref nm sz 0 len)],wo:=[(nm,some (.row e sz ys))] } :=
 OpJ.run rfl rfl hN rfl fun env ob a w σ Z sm hne=>by
  obtain⟨h1,h2⟩:=E5 hne.1
  have hfr:ob nm=none:=hne.2.2 nm (by simp)
  have hxv:=A93 (hx B env ob a w σ Z sm h1)
  have hob:ob nm2=some (some (.row e2 sz es)):=hne.2.1 (nm2,.row e2 sz es) (by simp)
  obtain⟨ad,c,hyv,hc1,hc2,hyd0⟩:=A33 (hy B env ob a w σ Z sm h2) ⟨_,hob⟩
  have hrow:=sm.obj nm2 _ hob
  have hyl:ys.length=len2:=by rw [hcut,List.length_take,List.length_drop];omega
  rw [← hyl] at hyv hc1
  have hyd:ys=[]∨∃ b o,ad=some ⟨b,o,none⟩∧(∀ e∈ys,e.sz=sz)∧D.repE Z w sz ys b o:=by
   rcases hyd0 with ⟨k1,_⟩ | ⟨b,e',k1,k2,_⟩
   ·have h0:es=[]:=by obtain⟨_,_,v,xs,_,_,_,h5⟩:=hrow;exact h5 k1
    exact .inl (by rw [hcut,h0];simp)
   ·rcases k2 with k2 | k2
    ·exact .inl (List.eq_nil_of_length_eq_zero (by omega))
    ·refine .inr ⟨b,off*sz,k2,fun q hq=>hrow.2.1 q (by rw [hcut] at hq;exact List.mem_of_mem_drop (List.mem_of_mem_take hq)),?_⟩
     have:=D.repE_drop _ b 0 off (B61 hrow k1)
     rw [Nat.zero_add] at this
     rw [hcut]
     exact D.repE_take _ b _ len2 this
  obtain⟨ti,z,hi,hz,hs,hby,hzs⟩:=he.get
  have hown:=World.ownsRow_nil w 0 e sz
  have hrun:∃ v' w' news,(Builtin.append_ #[t,t] ty #[.slice none 0 0,a.eval y]).run P w = .ok v' w'∧w'.ownsRow 0 e sz v' ys.length news∧w.grownBy w' none ∧
    (v'.ownBlock=none∨v'.ownBlock=some w.heap.size)∧D.repL Z w ys news:=by
   rcases hyd with hyd | ⟨b,o,ha,hsz,hre⟩
   ·subst hyd
    refine⟨.slice none 0 0,w,[],?_,hown,World.grownBy.refl w _,.inl rfl,rfl⟩
    rw [hyv]
    exact A0f w t ty e ti hu hi none 0 0 (Nat.le_refl _) ad c
   ·obtain⟨news,g1,g2⟩:=D.repL_of_repE ys b o hre hsz
    have gl:=D.repL_len ys news g1
    rw [D.szL_all ys hsz] at gl
    obtain⟨v',w',k1,k2,k3,_,k5⟩:=run_append_own_at (P:=P) w 0 t ty e ti z sz bytes hu hi hz hs hby hzs he.pos (.slice none 0 0) 0 [] hown ⟨b,o,none⟩ ys.length c news gl
     (fun j u hj=>by rw [X4];exact g2 j u hj) (D.repL_one ys news g1) (by simp only [maxLen];omega) (by simpa using hb) (Nat.zero_le _)
    exact⟨v',w',news,by rw [hyv,ha];exact k1,by simpa using k2,k3,k5,g1⟩
  obtain⟨v',w',news,hr,hown',hgr,hat,hnews⟩:=hrun
  have s2:=sm.rowNew0 hB (nm:=nm) hfr hnm hgr hat
   (o:=.row e sz ys) fun ob' σ' m hσ=>by
    refine⟨he.pos,hys,v',news,hown',D.repL_ext m.ext ys _ hnews,hσ.symm,fun hn => ?_⟩
    rw [hσ] at hn
    rcases hown'.2 with ⟨_,h0⟩ | ⟨g,cap,cur,hv,_⟩
    ·exact List.eq_nil_of_length_eq_zero (by omega)
    ·rw [hv] at hn;simp [Value.ownBlock] at hn
  rw [H7 _ rfl]
  refine⟨v',w',_,Z,?_,s2,?_⟩
  ·simp only [execOp,resolve,invoke,builtin,Sem.run_bind,Sem.run_pure,Result.andThen_ok,List.map_toArray,List.map_cons,List.map_nil,hxv,hr]
  ·rw [hlen]
   exact R0 (e:=e) (xs:=news) (by rw [D6];simp) hown' (by simp [updS])
end
theorem A6e {α:Type} {es:List α} {off len:Nat} {i:Int} {x:α} (h:idx ((es.drop off).take len) i=some x):0≤i∧i.toNat<len:=by
 have h1:=F6 h
 obtain⟨h2,_⟩:=List.getElem?_eq_some_iff.1 h1.2
 rw [List.length_take] at h2
 exact⟨h1.1,by omega⟩
theorem B3r {α:Type} {es:List α} {off len:Nat} {i:Int} {x:α} (h:idx ((es.drop off).take len) i=some x):es[off+i.toNat]? = some x:=by
 have h1:=F6 h
 have h2:=A6e h
 rw [List.getElem?_take_of_lt h2.2,List.getElem?_drop] at h1
 exact h1.2
end Go.Vc
