/- Rows written in place: a stretch of a row is turned. -/
import Derived.Test.YtkcpjnjneehecaaVcQ
import Derived.Laws.CopyRow
namespace Go.Vc
open Go
variable {P:Program} {B:Base} {ops:Array Oper}
theorem wrap_nonneg {k:IntKind} (h:k.signed=false) (n:Int):0≤k.wrap n:=by
 unfold IntKind.wrap
 simp only [h,Bool.false_and,Bool.false_eq_true,if_false]
 exact Int.emod_nonneg _ (by have:(0:Int)<2 ^ k.bits:=Int.pow_pos (by decide);omega)
theorem repL_parts {Z:Nat→Prop} {w:World}:∀ {xs ys:List D} {cs:List Value},D.repL Z w (xs++ys) cs→∃ c1 c2,cs=c1++c2∧D.repL Z w xs c1∧D.repL Z w ys c2
 | [],_,cs,h=>⟨[],cs,rfl,rfl,h⟩
 | x :: xs,ys,cs,h=>by
  obtain⟨c1,c2,h1,h2,h3⟩:=h
  obtain⟨d1,d2,g1,g2,g3⟩:=repL_parts h3
  exact⟨c1++d1,d2,by rw [h1,g1,List.append_assoc],⟨c1,d1,rfl,h2,g2⟩,g3⟩
theorem Sim.splice {env:Env} {ob:Obs} {a:Act} {w:World} {σ:Nat→Option Nat} {Z:Nat→Prop} (sm:Sim B env ob a w σ Z) {nm e sz k b:Nat} {es ys es':List D} {news:List Value} (hob:ob nm=some (some (.row e sz es))) (hb:σ nm=some b)
  (hys:D.repL Z w ys news) (hysz:∀ y∈ys,y.sz=sz) (hk:k+ys.length≤es.length) (hes:es'=es.take k++ys++es.drop (k+ys.length)) :
  ∃ cur,w.heap[b]? = some (.cells cur e (0,0))∧k*sz+news.length≤cur.size ∧
   Sim B env (updO ob nm (some (.row e sz es'))) a (w.setRow b (cur.toList.take (k*sz)++news++cur.toList.drop (k*sz+news.length)).toArray) σ Z:=by
 have hro:=sm.obj nm _ hob
 obtain⟨cur,cap,xs,hw,hcsz,hle,hcap,hr,hxl,htake⟩:=Ob.row_cells hro hb
 have hnl:news.length=ys.length*sz:=by rw [D.repL_len _ _ hys,D.szL_all _ hysz]
 have hxs:xs.length≤cur.size:=by rw [hxl,hcsz];exact Nat.mul_le_mul_right _ hle
 have hfit:k*sz+news.length≤xs.length:=by
  rw [hnl,hxl,← Nat.add_mul];exact Nat.mul_le_mul_right _ hk
 have e0:es=es.take k++((es.drop k).take ys.length++es.drop (k+ys.length)):=by
  rw [← List.drop_drop,List.take_append_drop,List.take_append_drop]
 rw [e0] at hr
 obtain⟨c1,c23,q1,r1,r23⟩:=repL_parts hr
 obtain⟨c2,c3,q2,r2,r3⟩:=repL_parts r23
 subst q2
 have hsz:=hro.2.1
 have l1:c1.length=k*sz:=by rw [D.repL_len _ _ r1,D.szL_all _ (fun x hx=>hsz x (List.mem_of_mem_take hx)),List.length_take,Nat.min_eq_left (by omega)]
 have l2:c2.length=news.length:=by
  rw [D.repL_len _ _ r2,D.szL_all _ (fun x hx=>hsz x (List.mem_of_mem_drop (List.mem_of_mem_take hx))),List.length_take,List.length_drop,Nat.min_eq_left (by omega),hnl]
 have hnew:D.repL Z w es' (c1++news++c3):=by
  rw [hes]
  exact D.repL_append _ _ _ _ (D.repL_append _ _ _ _ r1 hys) r3
 have hlen':es'.length=es.length:=by rw [hes];simp only [List.length_append,List.length_take,List.length_drop];omega
 have hcl:cur.toList.length=cur.size:=Array.length_toList
 have hlen:(cur.toList.take (k*sz)++news++cur.toList.drop (k*sz+news.length)).length=cur.size:=by
  simp only [List.length_append,List.length_take,List.length_drop,hcl];omega
 obtain⟨T,hT⟩:∃ T,cur.toList=xs++T:=by
  have:=List.take_append_drop (es.length*sz) cur.toList
  rw [htake] at this
  exact⟨_,this.symm⟩
 have t1:cur.toList.take (k*sz)=c1:=by
  rw [hT,List.take_append_of_le_length (by omega),q1,← l1,List.take_left']
  rfl
 have t2:cur.toList.drop (k*sz+news.length)=c3++T:=by
  rw [hT,List.drop_append_of_le_length (by omega),q1,← List.append_assoc,List.drop_left' (by simp [l1,l2])]
 refine⟨cur,hw,by omega,sm.setObj hob hb hw (by simpa using hlen) fun ob' m => ?_⟩
 have hxl':(c1++news++c3).length=es'.length*sz:=by
  have:=hxl
  rw [q1] at this
  rw [hlen']
  simp only [List.length_append] at this ⊢
  omega
 refine⟨hro.1,fun y' hy' => ?_,.slice (some ⟨b,0,none⟩) es'.length cap,c1++news++c3,⟨hxl',.inr ⟨b,cap,_,rfl,Nat.zero_le _,setRow_heap w b cur _ e (0,0) hw,by omega,by simpa [maxLen] using hcap,?_,?_⟩⟩,?_,?_,?_⟩
 ·rw [hes] at hy'
  rcases List.mem_append.1 hy' with hy' | hy'
  ·rcases List.mem_append.1 hy' with hy' | hy'
   ·exact hsz y' (List.mem_of_mem_take hy')
   ·exact hysz y' hy'
  ·exact hsz y' (List.mem_of_mem_drop hy')
 ·rw [← hcsz];simpa using hlen
 ·rw [t1,t2,← hxl',← List.append_assoc]
  exact List.take_left' rfl
 ·exact D.repL_ext m.ext es' _ hnew
 ·simp [Value.ownBlock,hb]
 ·intro hnone;rw [hb] at hnone;cases hnone
section
variable {d:Nat} {x y:Operand} {ty:TypeId} {pos:String} {af:Array Edge} {nt nt':List (Nat×V)}
end
end Go.Vc
