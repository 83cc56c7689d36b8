/- append onto the head of a row from its own tail: the row is then what is left. -/
import Derived.Test.YtkcpjnjneehecaaVcDel
import Derived.Test.YtkcpjnjneehecaaVcZ
namespace Go.Vc
open Go
section
variable {P:Program} {B:Base} {ops:Array Oper} {d:Nat} {x y:Operand} {ty:TypeId} {pos:String} {af:Array Edge} {nt nt':List (Nat×V)}
theorem OpJ.appendOwn {t e sz nm i j m:Nat} {ag:Bool} {es es':List D} (hu:P.underlying t=some (.slice e)) (ht:TyS P e sz ag) (h0:0<sz) (hij:i≤j) (hjl:j≤es.length) (hm0:m=es.length-j) (hpos:0<es.length) (hes:es'=es.take i++(es.drop j).take m++es.drop (i+m)) {len:Nat} (hlen:len=i+m) (hN:d<B.N)
  (hx:Opd x (.sref nm sz 0 i) nt) (hy:Opd y (.sref nm sz j m) nt') :
  OpJ P B ops ⟨some d,.call { callee:=.builtin .append,args:=#[x,y],argTypes:=#[t,t] },ty,pos,af,none⟩ { nt:=nt++nt',no:=[(nm,.row e sz es)],wt:=[(d,.sref nm sz 0 len)],wo:=[(nm,some (.row e sz es'))] } :=
 OpJ.run rfl rfl hN rfl fun env ob a w σ Z sm hne=>by
  subst hlen
  have hjm:j+m≤es.length:=by omega
  obtain⟨g1,g2⟩:=needs_app hne.1
  have hob:ob nm=some (some (.row e sz es)):=hne.2.1 (nm,_) (by simp)
  have hlv:live ob nm:=⟨_,hob⟩
  obtain⟨ad,c,hv,hlc,hc63,hd⟩:=rep_sref (hx B env ob a w σ Z sm g1) hlv
  have hro:=sm.obj nm _ hob
  obtain⟨b,e',hσ,_,hshc,had⟩:∃ b e,σ nm=some b∧(c=0∨ad=some ⟨b,0*sz,none⟩)∧w.shape? b=some (e,(0+c)*sz)∧(0=0→ad=some ⟨b,0,none⟩):=by
   rcases hd with ⟨k1,_⟩ | hd
   ·exfalso
    obtain⟨_,_,v,xs,⟨_,h2⟩,h3,h4,h5⟩:=hro
    have:=h5 k1
    rw [this] at hpos;exact Nat.lt_irrefl _ hpos
   ·exact hd
  rw [had rfl] at hv
  obtain⟨cur,cap,xs,hw,hcsz,hl2,_⟩:=Ob.row_cells hro hσ
  have hcc:cap*sz=c*sz:=by
   have hshape:w.shape? b=some (e,cur.size):=by simp [World.shape?,hw]
   rw [hshape] at hshc
   have:=congrArg Prod.snd (Option.some.inj hshc)
   simp only at this
   rw [← hcsz,this,Nat.zero_add]
  have hle:es.length≤c:=by
   have:cap=c:=Nat.eq_of_mul_eq_mul_right h0 hcc
   omega
  have hyr:=hy B env ob a w σ Z sm g2
  have hsz:∀ q∈(es.drop j).take m,q.sz=sz:=fun q hq=>hro.2.1 q (List.mem_of_mem_drop (List.mem_of_mem_take hq))
  have hylen:((es.drop j).take m).length=m:=by rw [List.length_take,List.length_drop];omega
  have src:∃ cs,(Builtin.lenOf (a.eval y)).run P w = .ok m w∧(Builtin.firstCells sz m (a.eval y)).run P w = .ok cs.toArray w∧D.repL Z w ((es.drop j).take m) cs∧cs.length=m*sz∧∀ u∈cs,u.oneCell'=true:=by
   by_cases hm:m=0
   ·subst hm
    obtain⟨ad,c',hv',_,_,_⟩:=rep_sref hyr hlv
    refine⟨[],by rw [hv'];simp [Builtin.lenOf],?_,by simp [D.repL],by simp,fun u hu=>by cases hu⟩
    rw [hv']
    cases ad with
    | none=>simp [Builtin.firstCells]
    | some A =>
     have:=run_loadCells_list (P:=P) w A [] (fun j v h=>by simp at h)
     simpa [Builtin.firstCells] using this
   ·obtain⟨sa,sc,cs,hyv,q1,q2,q3,q4⟩:=src_row sm hob hyr (by omega) (Nat.le_refl m) hjm
    have hl:=run_loadCells_list (P:=P) w sa cs q3
    refine⟨cs,by rw [hyv];simp [Builtin.lenOf],?_,q1,q2,q4⟩
    rw [hyv]
    simp [Builtin.firstCells,← q2,hl]
  obtain⟨cs,s1,s2,q1,q2,q4⟩:=src
  have hfit:i*sz+cs.length≤cur.size:=by
   rw [hcsz,q2,← Nat.add_mul]
   exact Nat.mul_le_mul_right _ (by omega)
  have hrun:=run_append_at (P:=P) w t ty e hu ht b i c cur hw (a.eval y) m cs s1 s2 q4 (by omega) hfit
  obtain⟨cur',hw',_,s'⟩:=sm.splice (k:=i) hob hσ q1 hsz (by rw [hylen];omega) (es':=es') (by rw [hylen];exact hes)
  have:cur'=cur:=by rw [hw] at hw';cases hw';rfl
  subst this
  rw [eff_obs1 _ rfl]
  refine⟨_,_,σ,Z,by simp only [execOp,resolve,invoke,builtin,Sem.run_bind,Sem.run_pure,Result.andThen_ok,List.map_toArray,List.map_cons,List.map_nil,hv,hrun];rfl,s',?_⟩
  have hl':live (updO ob nm (some (.row e sz es'))) nm:=⟨.row e sz es',by simp [updO]⟩
  refine⟨⟨hl'.used,fun _=>⟨_,c,rfl,by omega,hc63,.inr ⟨b,e',hσ,.inr (by simp),?_,fun _=>rfl⟩⟩⟩,.inr rfl⟩
  have hfz:i*sz+cs.length≤cur'.size:=hfit
  simp only [World.shape?,setRow_heap w b cur' _ e _ hw,Option.some.injEq,Prod.mk.injEq,List.size_toArray,List.length_append,List.length_take,List.length_drop,Array.length_toList]
  have he:e=e':=by
   have hshape:w.shape? b=some (e,cur'.size):=by simp [World.shape?,hw]
   rw [hshape] at hshc
   exact congrArg Prod.fst (Option.some.inj hshc)
  refine⟨he,?_⟩
  rw [Nat.zero_add,← hcc,← hcsz]
  omega
theorem OpJ.shrW {o:Oper} {nt:List (Nat×V)} {d nm e sz k:Nat} {es es1 es':List D} {v:V} (h:OpJ P B ops o { nt,no:=[(nm,.row e sz es)],wt:=[(d,v)],wo:=[(nm,some (.row e sz es1))] }) (hk:k≤es1.length) (he:es'=es1.take k) :
  OpJ P B ops o { nt,no:=[(nm,.row e sz es)],wt:=[(d,v)],wo:=[(nm,some (.row e sz es'))] }:=by
 subst he
 intro Q env ob a w σ Z K s hn hK
 refine h Q env ob a w σ Z K s hn fun a' w' σ' Z' s' => ?_
 rw [eff_obs1 _ rfl] at s'
 refine hK a' w' σ' Z' ?_
 have hob:updO ob nm (some (.row e sz es1)) nm=some (some (.row e sz es1)):=by simp [updO]
 have:=s'.shrink hob hk
 have e2:Eff.obs { nt,no:=[(nm,.row e sz es)],wt:=[(d,v)],wo:=[(nm,some (.row e sz (es1.take k)))] } ob=updO (updO ob nm (some (.row e sz es1))) nm (some (.row e sz (es1.take k))):=by
  rw [eff_obs1 _ rfl]
  funext i;unfold updO
  by_cases hi:i=nm
  ·simp [hi]
  ·simp [hi]
 rw [e2];exact this
theorem OpJ.appendCut {α:Type} {f:α→D} {t e sz nm i j:Nat} {ag:Bool} {xs:List α} (hu:P.underlying t=some (.slice e)) (ht:TyS P e sz ag) (h0:0<sz) (hij:i<j) (hjl:j≤xs.length) {len m:Nat} (hlen:len=(xs.take i++xs.drop j).length) (hm:m=xs.length-j) (hN:d<B.N)
  (hx:Opd x (.sref nm sz 0 i) nt) (hy:Opd y (.sref nm sz j m) nt') :
  OpJ P B ops ⟨some d,.call { callee:=.builtin .append,args:=#[x,y],argTypes:=#[t,t] },ty,pos,af,none⟩ { nt:=nt++nt',no:=[(nm,.row e sz (xs.map f))],wt:=[(d,.sref nm sz 0 len)],wo:=[(nm,some (.row e sz ((xs.take i++xs.drop j).map f)))] }:=by
 have hl:(xs.map f).length=xs.length:=List.length_map ..
 have e1:((xs.map f).drop j).take m=(xs.map f).drop j:=List.take_of_length_le (by rw [List.length_drop,hl,hm];exact Nat.le_refl _)
 have e2:((xs.map f).take i++(xs.map f).drop j).length=i+m:=by rw [List.length_append,List.length_take,List.length_drop,hl];omega
 refine OpJ.shrW (k:=i+m) (OpJ.appendOwn (i:=i) (j:=j) (m:=m) hu ht h0 (Nat.le_of_lt hij) (by rw [hl];exact hjl) (by rw [hl];exact hm) (by rw [hl];omega) rfl (by rw [hlen,List.length_append,List.length_take,List.length_drop];omega) hN hx hy) ?_ ?_
 ·rw [e1,List.length_append,e2];omega
 ·rw [e1,← e2,List.take_left];simp [List.map_take,List.map_drop]
end
def ROOM:Nat:=140737488355328
theorem room_mul {c b:Nat} (h:decide (c*b≤ROOM)=true):c*b≤140737488355328:=of_decide_eq_true h
theorem room_le {c b:Nat} (h:decide (c*b≤ROOM)=true) (hb:Nat.ble 1 b=true):c≤9223372036854775807:=by
 have h1:c*b≤140737488355328:=of_decide_eq_true h
 have:=Nat.mul_le_mul_left c (Nat.le_of_ble_eq_true hb)
 omega
end Go.Vc
