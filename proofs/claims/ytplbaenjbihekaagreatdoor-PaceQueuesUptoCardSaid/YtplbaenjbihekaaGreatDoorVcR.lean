/- Rows written in place: a stretch of a row is turned. -/
import Derived.Test.YtplbaenjbihekaaGreatDoorVcQ
import Derived.Laws.CopyRow
namespace Go.Vc
open Go
variable {P:Program} {B:Base} {ops:Array Oper}
theorem A6f {k:IntKind} (h:k.signed=false) (n:Int):0≤k.wrap n:=by
 unfold IntKind.wrap;simp only [h,Bool.false_and,Bool.false_eq_true,if_false];exact Int.emod_nonneg _ (by have:(0:Int)<2 ^ k.bits:=Int.pow_pos (by decide);omega)
theorem A9m {Z:Nat→Prop} {w:World}:∀ {xs ys:List D} {cs:List Value},D.repL Z w (xs++ys) cs→∃ c1 c2,cs=c1++c2∧D.repL Z w xs c1∧D.repL Z w ys c2
 | [],_,cs,h=>⟨[],cs,rfl,rfl,h⟩
 | x :: xs,ys,cs,h=>by
  obtain⟨c1,c2,h1,h2,h3⟩:=h;obtain⟨d1,d2,g1,g2,g3⟩:=A9m h3;exact⟨c1++d1,d2,by rw [h1,g1,List.append_assoc],⟨c1,d1,rfl,h2,g2⟩,g3⟩
theorem Sim.splice {env:Env} {ob:Obs} {a:Act} {w:World} {σ:Nat→Option Nat} {Z:Nat→Prop} (sm:Sim B env ob a w σ Z) {nm e sz k b:Nat} {es ys es':List D} {news:List Value} (hob:ob nm=some (some (.row e sz es))) (hb:σ nm=some b)
  (hys:D.repL Z w ys news) (hysz:∀ y∈ys,y.sz=sz) (hk:k+ys.length≤es.length) (hes:es'=es.take k++ys++es.drop (k+ys.length)) :
  ∃ cur,w.heap[b]? = some (.cells cur e (0,0))∧k*sz+news.length≤cur.size ∧
   Sim B env (updO ob nm (some (.row e sz es'))) a (w.setRow b (cur.toList.take (k*sz)++news++cur.toList.drop (k*sz+news.length)).toArray) σ Z:=by
 have hro:=sm.obj nm _ hob;obtain⟨cur,cap,xs,hw,hcsz,hle,hcap,hr,hxl,htake⟩:=Ob.row_cells hro hb;have hnl:news.length=ys.length*sz:=by rw [D.repL_len _ _ hys,D.szL_all _ hysz]
 have hxs:xs.length≤cur.size:=by rw [hxl,hcsz];exact Nat.mul_le_mul_right _ hle
 have hfit:k*sz+news.length≤xs.length:=by
  rw [hnl,hxl,← Nat.add_mul];exact Nat.mul_le_mul_right _ hk
 have e0:es=es.take k++((es.drop k).take ys.length++es.drop (k+ys.length)):=by
  rw [← List.drop_drop,List.take_append_drop,List.take_append_drop]
 rw [e0] at hr;obtain⟨c1,c23,q1,r1,r23⟩:=A9m hr;obtain⟨c2,c3,q2,r2,r3⟩:=A9m r23;subst q2;have hsz:=hro.2.1;have l1:c1.length=k*sz:=by rw [D.repL_len _ _ r1,D.szL_all _ (fun x hx=>hsz x (List.mem_of_mem_take hx)),List.length_take,Nat.min_eq_left (by omega)]
 have l2:c2.length=news.length:=by
  rw [D.repL_len _ _ r2,D.szL_all _ (fun x hx=>hsz x (List.mem_of_mem_drop (List.mem_of_mem_take hx))),List.length_take,List.length_drop,Nat.min_eq_left (by omega),hnl]
 have hnew:D.repL Z w es' (c1++news++c3):=by
  rw [hes];exact D.repL_append _ _ _ _ (D.repL_append _ _ _ _ r1 hys) r3
 have hlen':es'.length=es.length:=by rw [hes];simp only [List.length_append,List.length_take,List.length_drop];omega
 have hcl:cur.toList.length=cur.size:=Array.length_toList;have hlen:(cur.toList.take (k*sz)++news++cur.toList.drop (k*sz+news.length)).length=cur.size:=by
  simp only [List.length_append,List.length_take,List.length_drop,hcl];omega
 obtain⟨T,hT⟩:∃ T,cur.toList=xs++T:=by
  have:=List.take_append_drop (es.length*sz) cur.toList;rw [htake] at this;exact⟨_,this.symm⟩
 have t1:cur.toList.take (k*sz)=c1:=by
  rw [hT,List.take_append_of_le_length (by omega),q1,← l1,List.take_left'];rfl
 have t2:cur.toList.drop (k*sz+news.length)=c3++T:=by
  rw [hT,List.drop_append_of_le_length (by omega),q1,← List.append_assoc,List.drop_left' (by simp [l1,l2])]
 refine⟨cur,hw,by omega,sm.setObj hob hb hw (by simpa using hlen) fun ob' m => ?_⟩;have hxl':(c1++news++c3).length=es'.length*sz:=by
  have:=hxl;rw [q1] at this;rw [hlen'];simp only [List.length_append] at this ⊢;omega
 refine⟨hro.1,fun y' hy' => ?_,.slice (some ⟨b,0,none⟩) es'.length cap,c1++news++c3,⟨hxl',.inr ⟨b,cap,_,rfl,Nat.zero_le _,setRow_heap w b cur _ e (0,0) hw,by omega,by simpa [maxLen] using hcap,?_,?_⟩⟩,?_,?_,?_⟩
 ·rw [hes] at hy';rcases List.mem_append.1 hy' with hy' | hy'
  ·rcases List.mem_append.1 hy' with hy' | hy'
   ·exact hsz y' (List.mem_of_mem_take hy')
   ·exact hysz y' hy'
  ·exact hsz y' (List.mem_of_mem_drop hy')
 ·rw [← hcsz];simpa using hlen
 ·rw [t1,t2,← hxl',← List.append_assoc];exact List.take_left' rfl
 ·exact D.repL_ext m.ext es' _ hnew
 ·simp [Value.ownBlock,hb]
 ·intro hnone;rw [hb] at hnone;cases hnone
section
variable {d:Nat} {x y:Operand} {ty:TypeId} {pos:String} {af:Array Edge} {nt nt':List (Nat×V)}
theorem OpJ.clearS {t e sz nm off len:Nat} {z:D} {es es':List D} (hu:P.underlying t=some (.slice e)) (hz:TyZ P e (.d z)) (hzs:z.sz=sz) (h0:0<sz) (hk:off+len≤es.length) (hes:es'=es.take off++List.replicate len z++es.drop (off+len))
  (hx:Opd x (.sref nm sz off len) nt) :
  OpJ P B ops ⟨none,.call { callee:=.builtin .clear,args:=#[x],argTypes:=#[t] },ty,pos,af,none⟩ { nt,no:=[(nm,.row e sz es)],wo:=[(nm,some (.row e sz es'))] } :=
 OpJ.run0 rfl rfl rfl fun env ob a w σ Z sm hne=>by
  have hob:=hne.2.1 (nm,.row e sz es) (by simp);have hl:live ob nm:=⟨_,hob⟩;obtain⟨ad,c,hv,hc1,hc2,hd⟩:=A4q (hx B env ob a w σ Z sm hne.1) hl
  by_cases hlen:len=0
  ·subst hlen;refine⟨w,σ,Z,.inr ⟨.tuple #[],?_⟩,?_⟩
   ·cases ad<;>simp [execOp,resolve,invoke,builtin,hv,Builtin.clear_,run_underlying hu]
   ·rw [I4 _ rfl];have:es'=es:=by rw [hes];simp
    rw [this];have e1:updO ob nm (some (.row e sz es))=ob:=by
     funext j;unfold updO;by_cases hj:j=nm
     ·rw [if_pos hj,hj,hob]
     ·rw [if_neg hj]
    rw [e1];exact sm
  ·rcases hd with ⟨_,_,_,k4⟩ | ⟨b,e',hb,ha,_,_⟩
   ·omega
   ·have had:ad=some ⟨b,off*sz,none⟩:=by
     rcases ha with ha | ha
     ·omega
     ·exact ha
    subst had;have hplain:D.plain z=true:=hz.plain;have hrep:=Y5 (Z:=Z) (w:=w) hplain len;obtain⟨cur,hw,hfit,s'⟩:=sm.splice (k:=off) (ys:=List.replicate len z) hob hb hrep (fun y hy=>by rw [(List.mem_replicate.1 hy).2];exact hzs) (by simpa using hk) (by simpa using hes);have hzc:=hz.cells;have henc:z.enc.length=sz:=by rw [← hzs];exact(V.rep_enc (ob:=ob) (σ:=σ) (Z:=Z) (w:=w) (.d z) hz.plain).2.1
    have hcells:(Builtin.zeroCells (valOf (V.d z).isAgg (V.d z).enc).cells len).toList=(List.replicate len z.enc).flatten:=by
     have:=T2 z.enc (by omega) len;rw [← this,show(valOf (V.d z).isAgg (V.d z).enc).cells=z.enc.toArray from by rw [← Array.toList_inj];exact hzc];simp [Builtin.zeroCells]
    have hst:=run_storeCells_at P b (off*sz) e (List.replicate len z.enc).flatten 0 cur w hw (by simpa using hfit) (by
     intro u hu';have h3:=(V.rep_enc (ob:=ob) (σ:=σ) (Z:=Z) (w:=w) (.d z) hz.plain).2.2;obtain⟨l,hl1,hl2⟩:=List.mem_flatten.1 hu';rw [(List.mem_replicate.1 hl1).2] at hl2;exact h3 u hl2)
    refine⟨_,σ,Z,.inr ⟨.tuple #[],?_⟩,by rw [I4 _ rfl];exact s'⟩;obtain⟨n,rfl⟩:∃ n,len=n+1:=⟨len-1,by omega⟩;simp only [Nat.add_zero] at hst;simp [execOp,resolve,invoke,builtin,hv,Builtin.clear_,run_underlying hu,hz.run,hcells,hst]
end
end Go.Vc
